/- The evaluator of closed calls, part EvC. -/
import Derived.Test.YtjkifbkehochoaaGreatDoorEvB
set_option linter.unusedSimpArgs false
set_option linter.unusedVariables false
namespace Go.Proofs.YtjkifbkehochoaaGreatDoor.Ev

theorem Step.write {φ : Ren} {C C' : Nat → Option Blk} {n : Nat} {w w' : World} (hr : HR φ C n w) {i b : Nat} {B : Blk} (hi : φ i = some b) (hl : Blk.live (C i)) (hs : w'.heap.size = w.heap.size)
    (hf : ∀ c, c ≠ b → w'.heap[c]? = w.heap[c]?) (hb : BR φ i (some B) w'.heap[b]?) (hB : Blk.live (some B)) (h1 : C' i = some B) (h2 : ∀ j, j ≠ i → C' j = C j) (hz : Same w w' := by first | exact ⟨rfl, rfl, rfl⟩ | exact Same.setCells .. | (subst_vars; exact ⟨rfl, rfl, rfl⟩) | assumption) : Step φ C n w φ C' n w' := by
  have hin := (hr.lt i b hi).1
  have live' : ∀ j, j < n → Blk.live (C' j) → Blk.live (C j) := fun j hj h => by
    by_cases e : j = i
    · subst e; exact hl
    · rw [h2 j e] at h; exact h
  have there' : ∀ j, j < n → Blk.there (C' j) → Blk.there (C j) := fun j hj h => by
    by_cases e : j = i
    · subst e; exact Blk.live_there hl
    · rw [h2 j e] at h; exact h
  have ro' : ∀ j cs, C' j = some (.ro cs) → C j = some (.ro cs) := fun j cs h => by
    by_cases e : j = i
    · subst e; rw [h1] at h; cases h; exact hB.elim
    · rw [h2 j e] at h; exact h
  refine ⟨⟨hr.bnd, fun j cs h => hr.ro j cs (ro' j cs h), fun j c h => ⟨(hr.lt j c h).1, by rw [hs]; exact (hr.lt j c h).2⟩, fun j k c hj hk a1 a2 => hr.inj j k c hj hk (live' j (hr.lt j c hj).1 a1) (there' k (hr.lt k c hk).1 a2), fun j c hj => ?_⟩,
    φ.le_refl, fun _ _ _ h => h, Nat.le_refl _, live', ro', fun j c h1 h2 _ => absurd (hr.lt j c h2).1 (by omega), by omega, fun c hc hno => hf c fun e => hno i (e ▸ hi) hl, hz⟩
  by_cases e : j = i
  · subst e
    rw [hi] at hj
    cases hj
    rw [h1]; exact hb
  · rw [h2 j e]
    by_cases hc : c = b
    · subst hc
      by_cases ht : Blk.there (C j)
      · exact absurd (hr.inj i j c hi hj hl ht).symm e
      · unfold Blk.there at ht
        split at ht
        · rename_i hd; rw [hd]; trivial
        · rename_i hd; rw [hd]; trivial
        · exact absurd trivial ht
    · rw [hf c hc]; exact hr.row j c hj
def Ren.at (φ : Ren) (i b q : Nat) : Ren := ⟨fun j => if j = i then some b else φ j, fun j => if j = i then q else φ.k j⟩
theorem Ren.at_same (φ : Ren) (i b q : Nat) : φ.at i b q i = some b := by simp [Ren.at]
theorem Ren.at_k (φ : Ren) (i b q : Nat) : (φ.at i b q).k i = q := by simp [Ren.at]
theorem Ren.at_ne (φ : Ren) {i b q j : Nat} (h : j ≠ i) : φ.at i b q j = φ j := by simp [Ren.at, h]
theorem Ren.at_nek (φ : Ren) {i b q j : Nat} (h : j ≠ i) : (φ.at i b q).k j = φ.k j := by simp [Ren.at, h]
theorem Ren.at_ext {φ : Ren} {i b q : Nat} (h : φ i = none) : φ.le (φ.at i b q) := fun j c hj => by
  have : j ≠ i := fun e => by rw [e, h] at hj; cases hj
  exact ⟨by rw [Ren.at_ne φ this]; exact hj, Ren.at_nek φ this⟩
/-- a new block under the name i, which had none -/
theorem HR.alloc {φ : Ren} {C C' : Nat → Option Blk} {n n' : Nat} {w w' : World} (hr : HR φ C n w) {i : Nat} {B : Blk} {o : Obj} (hi : φ i = none) (hin : i < n') (hnn : n ≤ n') (hb' : n' ≤ 65536)
    (hw : w'.heap = w.heap.push o) {q : Nat} (hb : BR (φ.at i w.heap.size q) i (some B) (some o)) (hB : Blk.live (some B)) (h1 : C' i = some B) (h2 : ∀ j, j ≠ i → C' j = C j) : HR (φ.at i w.heap.size q) C' n' w' := by
  have old : ∀ j c, φ.at i w.heap.size q j = some c → j ≠ i → φ j = some c := fun j c h e => by rw [Ren.at_ne φ e] at h; exact h
  have hsz : w'.heap.size = w.heap.size + 1 := by rw [hw]; simp
  have ne : ∀ j c, φ j = some c → j ≠ i := fun j c hj e => by rw [e, hi] at hj; cases hj
  refine ⟨hb', fun j cs h => ?_, fun j c hj => ?_, fun j k c hj hk a1 a2 => ?_, fun j c hj => ?_⟩
  · by_cases e : j = i
    · subst e; rw [h1] at h; cases h; exact hB.elim
    · rw [h2 j e] at h; have := hr.ro j cs h; exact ⟨by omega, by rw [Ren.at_ne φ e]; exact this.2⟩
  · by_cases e : j = i
    · subst e; rw [Ren.at_same] at hj; cases hj; exact ⟨hin, by omega⟩
    · have := hr.lt j c (old j c hj e); exact ⟨by omega, by omega⟩
  · by_cases e : j = i <;> by_cases f : k = i
    · rw [e, f]
    · subst e
      rw [Ren.at_same] at hj
      cases hj
      have := (hr.lt k _ (old k _ hk f)).2
      omega
    · subst f
      rw [Ren.at_same] at hk
      cases hk
      have := (hr.lt j _ (old j _ hj e)).2
      omega
    · have hj := old j c hj e
      have hk := old k c hk f
      rw [h2 j e] at a1
      rw [h2 k f] at a2
      exact hr.inj j k c hj hk a1 a2
  · by_cases e : j = i
    · subst e
      rw [Ren.at_same] at hj
      cases hj
      rw [h1, hw]
      simp only [Array.getElem?_push_size]
      exact hb
    · have hj := old j c hj e
      rw [h2 j e, hw, Array.getElem?_push_lt (hr.lt j c hj).2]
      have := hr.row j c hj
      rw [Array.getElem?_eq_getElem (hr.lt j c hj).2] at this
      exact this.mono (Ren.at_ext hi) (Ren.at_nek φ e)
theorem HR.fresh {φ : Ren} {C : Nat → Option Blk} {n : Nat} {w : World} (hr : HR φ C n w) : φ n = none := by
  cases h : φ n with
  | none => rfl
  | some b => exact absurd (hr.lt n b h).1 (by omega)
theorem Step.alloc {φ : Ren} {C C' : Nat → Option Blk} {n : Nat} {w w' : World} (hr : HR φ C n w) {B : Blk} {o : Obj} (hb' : n + 1 ≤ 65536) (hw : w'.heap = w.heap.push o) {q : Nat} (hb : BR (φ.at n w.heap.size q) n (some B) (some o)) (hB : Blk.live (some B)) (h1 : C' n = some B) (h2 : ∀ j, j ≠ n → C' j = C j) (hz : Same w w' := by first | exact ⟨rfl, rfl, rfl⟩ | exact Same.setCells .. | (subst_vars; exact ⟨rfl, rfl, rfl⟩) | assumption) :
    Step φ C n w (φ.at n w.heap.size q) C' (n + 1) w' := by
  have hi := hr.fresh
  have hsz : w'.heap.size = w.heap.size + 1 := by rw [hw]; simp
  refine ⟨hr.alloc hi (by omega) (by omega) hb' hw hb hB h1 h2, Ren.at_ext hi, fun j c hj h => ?_, by omega, fun j hj h => by rw [h2 j (by omega)] at h; exact h, fun j cs h => ?_, fun j c hj h hl => ?_, by omega, fun c hc _ => ?_, hz⟩
  · rw [Ren.at_ne φ (by omega)] at h; exact h
  · by_cases e : j = n
    · subst e; rw [h1] at h; cases h; exact hB.elim
    · rw [h2 j e] at h; exact h
  · by_cases e : j = n
    · subst e; rw [Ren.at_same] at h; cases h; exact .inl (Nat.le_refl _)
    · rw [Ren.at_ne φ e] at h; have := (hr.lt j c h).1; omega
  · rw [hw, Array.getElem?_push_lt hc, Array.getElem?_eq_getElem hc]
/-- a block's name is no longer to be used -/
theorem HR.kill {φ : Ren} {C C' : Nat → Option Blk} {n : Nat} {w : World} (hr : HR φ C n w) (h2 : ∀ j, C' j = C j ∨ C' j = some .dead) : Step φ C n w φ C' n w := by
  have live' : ∀ j, j < n → Blk.live (C' j) → Blk.live (C j) := fun j hj h => by
    rcases h2 j with e | e
    · rw [e] at h; exact h
    · rw [e] at h; exact h.elim
  have there' : ∀ j, j < n → Blk.there (C' j) → Blk.there (C j) := fun j hj h => by
    rcases h2 j with e | e
    · rw [e] at h; exact h
    · rw [e] at h; exact h.elim
  have ro' : ∀ j cs, C' j = some (.ro cs) → C j = some (.ro cs) := fun j cs h => by
    rcases h2 j with e | e
    · rw [e] at h; exact h
    · rw [e] at h; cases h
  refine ⟨⟨hr.bnd, fun j cs h => hr.ro j cs (ro' j cs h), hr.lt, fun j k c hj hk a1 a2 => hr.inj j k c hj hk (live' j (hr.lt j c hj).1 a1) (there' k (hr.lt k c hk).1 a2), fun j c hj => ?_⟩, φ.le_refl, fun _ _ _ h => h, Nat.le_refl _, live', ro',
    fun j c h1 h2 _ => absurd (hr.lt j c h2).1 (by omega), Nat.le_refl _, fun _ _ _ => rfl, .refl w⟩
  rcases h2 j with e | e
  · rw [e]; exact hr.row j c hj
  · rw [e]; trivial
theorem HR.heap {φ : Ren} {C : Nat → Option Blk} {n : Nat} {w w' : World} (hr : HR φ C n w) (h : w'.heap = w.heap) : HR φ C n w' :=
  ⟨hr.bnd, hr.ro, fun i b hi => by rw [h]; exact hr.lt i b hi, hr.inj, fun i b hi => by rw [h]; exact hr.row i b hi⟩
theorem HR.world {φ : Ren} {C : Nat → Option Blk} {n : Nat} {w w' : World} (hr : HR φ C n w) (h : w'.heap = w.heap) (hz : Same w w' := by first | exact ⟨rfl, rfl, rfl⟩ | exact Same.setCells .. | (subst_vars; exact ⟨rfl, rfl, rfl⟩) | assumption) : Step φ C n w φ C n w' :=
  ⟨⟨hr.bnd, hr.ro, fun i b hi => by rw [h]; exact hr.lt i b hi, hr.inj, fun i b hi => by rw [h]; exact hr.row i b hi⟩, φ.le_refl, fun _ _ _ h => h, Nat.le_refl _, fun _ _ h => h, fun _ _ h => h, fun i b hi hb => absurd (hr.lt i b hb).1 (by omega), by rw [h]; exact Nat.le_refl _, fun _ _ _ => by rw [h], hz⟩
/-- a live block gets a new name, its old one is dead; it is written -/
theorem Step.rename {φ : Ren} {C C' : Nat → Option Blk} {n : Nat} {w w' : World} (hr : HR φ C n w) {i b : Nat} {B : Blk} (hi : φ i = some b) (hl : Blk.live (C i)) (hb' : n + 1 ≤ 65536) (hs : w'.heap.size = w.heap.size)
    (hf : ∀ c, c ≠ b → w'.heap[c]? = w.heap[c]?) {q : Nat} (hb : BR (φ.at n b q) n (some B) w'.heap[b]?) (hB : Blk.live (some B)) (h0 : C' n = some B) (h1 : C' i = some .dead) (h2 : ∀ j, j ≠ n → j ≠ i → C' j = C j) (hz : Same w w' := by first | exact ⟨rfl, rfl, rfl⟩ | exact Same.setCells .. | (subst_vars; exact ⟨rfl, rfl, rfl⟩) | assumption) : Step φ C n w (φ.at n b q) C' (n + 1) w' := by
  have hn := hr.fresh
  have hin := (hr.lt i b hi).1
  have old : ∀ j c, φ.at n b q j = some c → j ≠ n → φ j = some c := fun j c h e => by rw [Ren.at_ne φ e] at h; exact h
  have live' : ∀ j, j < n → Blk.live (C' j) → j ≠ i ∧ Blk.live (C j) := fun j hj h => by
    by_cases e : j = i
    · subst e; rw [h1] at h; exact h.elim
    · rw [h2 j (by omega) e] at h; exact ⟨e, h⟩
  have there' : ∀ j, j < n → Blk.there (C' j) → j ≠ i ∧ Blk.there (C j) := fun j hj h => by
    by_cases e : j = i
    · subst e; rw [h1] at h; exact h.elim
    · rw [h2 j (by omega) e] at h; exact ⟨e, h⟩
  have ro' : ∀ j cs, C' j = some (.ro cs) → C j = some (.ro cs) := fun j cs h => by
    by_cases e : j = n
    · subst e; rw [h0] at h; cases h; exact hB.elim
    · by_cases f : j = i
      · subst f; rw [h1] at h; cases h
      · rw [h2 j e f] at h; exact h
  refine ⟨⟨hb', fun j cs h => by have := hr.ro j cs (ro' j cs h); exact ⟨by omega, by rw [Ren.at_ne φ (by omega)]; exact this.2⟩, fun j c hj => ?_, fun j k c hj hk a1 a2 => ?_, fun j c hj => ?_⟩, Ren.at_ext hn, fun j c hj h => ?_, by omega, fun j hj h => (live' j hj h).2, ro', fun j c hj h hlv => ?_, by omega, fun c hc hno => hf c fun e => hno i (e ▸ hi) hl, hz⟩
  · by_cases e : j = n
    · subst e; rw [Ren.at_same] at hj; cases hj; exact ⟨by omega, by rw [hs]; exact (hr.lt i b hi).2⟩
    · have := hr.lt j c (old j c hj e); exact ⟨by omega, by omega⟩
  · by_cases e : j = n <;> by_cases f : k = n
    · rw [e, f]
    · subst e
      rw [Ren.at_same] at hj
      cases hj
      have hk := old k _ hk f
      have hkn := (hr.lt k _ hk).1
      obtain ⟨q1, q2⟩ := there' k hkn a2
      exact absurd (hr.inj i k b hi hk hl q2).symm q1
    · subst f
      rw [Ren.at_same] at hk
      cases hk
      have hj := old j _ hj e
      have hjn := (hr.lt j _ hj).1
      obtain ⟨q1, q2⟩ := live' j hjn a1
      exact absurd (hr.inj j i b hj hi q2 (Blk.live_there hl)) q1
    · have hj := old j c hj e
      have hk := old k c hk f
      exact hr.inj j k c hj hk (live' j (hr.lt j c hj).1 a1).2 (there' k (hr.lt k c hk).1 a2).2
  · by_cases e : j = n
    · subst e
      rw [Ren.at_same] at hj
      cases hj
      rw [h0]
      exact hb
    · replace hj := old j c hj e
      have hjn := (hr.lt j c hj).1
      by_cases ei : j = i
      · subst ei; rw [h1]; trivial
      · rw [h2 j e ei]
        by_cases hc : c = b
        · subst hc
          by_cases ht : Blk.there (C j)
          · exact absurd (hr.inj i j c hi hj hl ht).symm ei
          · unfold Blk.there at ht
            split at ht
            · rename_i hd; rw [hd]; trivial
            · rename_i hd; rw [hd]; trivial
            · exact absurd trivial ht
        · rw [hf c hc]; exact (hr.row j c hj).mono (Ren.at_ext hn) (Ren.at_nek φ e)
  · rw [Ren.at_ne φ (by omega)] at h; exact h
  · by_cases e : j = n
    · subst e; rw [Ren.at_same] at h; cases h; exact .inr ⟨i, hi, hl⟩
    · have := (hr.lt j c (old j c h e)).1; omega

theorem heap_setCells (b : Nat) : ∀ (vs : List Value) (o : Nat) (w : World), (w.setCells b o vs).heap.size = w.heap.size ∧ (∀ c, c ≠ b → (w.setCells b o vs).heap[c]? = w.heap[c]?) ∧
    ∀ (cs : Array Value) (e : TypeId) (f : Nat × Nat), w.heap[b]? = some (.cells cs e f) → o + vs.length ≤ cs.size → ∃ cs', (w.setCells b o vs).heap[b]? = some (.cells cs' e f) ∧ cs'.size = cs.size ∧ ∀ i, cs'[i]? = if o ≤ i ∧ i < o + vs.length then vs[i - o]? else cs[i]?
  | [], o, w => by
    refine ⟨rfl, fun _ _ => rfl, fun cs e f h _ => ⟨cs, h, rfl, fun i => by rw [if_neg]; simp⟩⟩
  | v :: vs, o, w => by
    obtain ⟨h1, h2, h3⟩ := heap_setCells b vs (o + 1) (w.setCell ⟨b, o, none⟩ v)
    refine ⟨by rw [World.setCells, h1]; simp [World.setCell], fun c hc => ?_, fun cs e f h hl => ?_⟩
    · rw [World.setCells, h2 c hc]
      simp only [World.setCell]
      rw [Array.getElem?_modify]
      rw [if_neg (fun e => hc e.symm)]
    · have hb : b < w.heap.size := (Array.getElem?_eq_some_iff.1 h).1
      have hw : (w.setCell ⟨b, o, none⟩ v).heap[b]? = some (.cells (cs.setIfInBounds o v) e f) := by
        simp only [World.setCell, Array.getElem?_modify, if_true, h]
        simp
      obtain ⟨cs', q1, q2, q3⟩ := h3 _ e f hw (by simp at hl ⊢; omega)
      refine ⟨cs', by rw [World.setCells]; exact q1, by rw [q2]; simp, fun i => ?_⟩
      rw [q3 i]
      simp only [List.length_cons] at hl ⊢
      by_cases hi : i = o
      · subst hi
        rw [if_neg (by omega), if_pos (by omega), Nat.sub_self, Array.getElem?_setIfInBounds_self_of_lt (by omega)]
        rfl
      · by_cases hc : o + 1 ≤ i ∧ i < o + 1 + vs.length
        · rw [if_pos hc, if_pos (by omega), show i - o = (i - (o + 1)) + 1 by omega]
          simp
        · rw [if_neg hc, if_neg (by omega), Array.getElem?_setIfInBounds_ne (by omega)]
noncomputable def oneB : Value → Bool
  | .agg _ | .tuple _ => false
  | _ => true
theorem VR.one {φ : Ren} {v v' : Value} (h : VR φ v v') (k : oneB v = true) : v'.oneCell' = true := by cases h <;> first | rfl | (cases k; done)
noncomputable def writeRow (h : Hp) (id off : Nat) (vs : List Value) : Option Hp :=
  match vs.all oneB, h.get id with
  | true, some (.cells cs e ex fz) => match (match fz with | none => true | some k => Nat.ble k off) with
    | true => ob (over cs off vs) fun r => some (h.put id (.cells r e ex fz))
    | false => none
  | _, _ => none
theorem writeRow_run {P : Program} {φ : Ren} {h h' : Hp} {w : World} (hr : HR φ h.get h.n w) {id b off : Nat} {vs vs' : List Value} (hb : φ.f id = some b) (hv : LR φ vs vs') (hh : writeRow h id off vs = some h') :
    (storeCells ⟨b, off, none⟩ vs').run P w = .ok () (w.setCells b off vs') ∧ h'.n = h.n ∧ Step φ h.get h.n w φ h'.get h'.n (w.setCells b off vs') := by
  unfold writeRow at hh
  split at hh
  · rename_i cs e ex fz hone hC
    split at hh
    · rename_i hfz
      replace hh := ob_some hh
      obtain ⟨r, hr1, hh⟩ := hh
      cases hh
      obtain ⟨o1, o2, o3⟩ := over_spec _ _ _ _ hr1
      have hrow := hr.row id b hb
      rw [hC] at hrow
      obtain ⟨c, f, q1, q2, q3, q4⟩ := hrow
      have hlen := hv.1
      have hcs : cs.length ≤ c.size := by
        rcases Nat.eq_zero_or_pos cs.length with h0 | h0
        · omega
        · obtain ⟨y, hy, -⟩ := q3 (cs.length - 1) cs[cs.length - 1] (List.getElem?_eq_getElem (by omega))
          have := (Array.getElem?_eq_some_iff.1 hy).1
          omega
      have hfro : ∀ j, j < vs'.length → w.frozen? ⟨b, off + j, none⟩ = false := fun j hj => by
        obtain ⟨lo, hi⟩ := f
        simp only [World.frozen?, q1]
        cases fz with
        | none => cases q4; simp
        | some k =>
          have := Nat.le_of_ble_eq_true hfz
          have := q4 (off + j) (by omega) (by omega)
          simp only at this
          simp
          omega
      obtain ⟨s1, s2, s3⟩ := heap_setCells b vs' off w
      obtain ⟨c', t1, t2, t3⟩ := s3 c e f q1 (by omega)
      have hbn := (hr.lt id b hb).1
      have hbd := hr.bnd
      refine ⟨?_, rfl, ?_⟩
      · have := run_storeCells_cells (P := P) b off vs' 0 w (fun j hj => by simp [World.cell?, q1]; omega) (fun j hj => by simpa using hfro j hj) (fun v hvm => by
          obtain ⟨i, hi⟩ := List.getElem?_of_mem hvm
          have hil : i < vs.length := by rw [hlen]; exact (List.getElem?_eq_some_iff.1 hi).1
          exact (hv.2 i vs[i] v (List.getElem?_eq_getElem hil) hi).one (List.all_eq_true.1 hone _ (List.getElem_mem hil)))
        simpa using this
      · refine Step.write (i := id) (b := b) (B := .cells r e ex fz) hr hb (by rw [hC]; trivial) s1 s2 ⟨c', f, t1, by rw [t2, o1]; exact q2, fun i x hx => ?_, by rw [t2]; exact q4⟩ trivial ?_ fun j hne => ?_
        · rw [o3] at hx
          rw [t3, ← hlen]
          split at hx
          · rename_i hc
            rw [if_pos hc]
            exact hv.at hx
          · rename_i hc
            rw [if_neg hc]
            exact q3 i x hx
        · rw [Hp.get_put h _ (by omega), if_pos rfl]
        · rw [Hp.get_put h _ (by omega), if_neg hne]
    · cases hh
  · cases hh
noncomputable def storeV (P : Program) (t : TypeId) (x v : Value) (h : Hp) : Option Hp := match x with
  | .pointer (some ⟨id, off, none⟩) => ob (sizeB P t) fun s => match Nat.beq (cellsV v).length s with
    | true => writeRow h id off (cellsV v)
    | false => none
  | _ => none
theorem storeV_run {P : Program} {φ : Ren} {h h' : Hp} {w : World} (hr : HR φ h.get h.n w) {t : TypeId} {x v x' v' : Value} (hx : VR φ x x') (hv : VR φ v v') (hh : storeV P t x v h = some h') :
    ∃ a, x' = .pointer (some a) ∧ ∃ w', (storeVar t a v').run P w = .ok () w' ∧ h'.n = h.n ∧ Step φ h.get h.n w φ h'.get h'.n w' := by
  unfold storeV at hh
  split at hh
  · rename_i id off
    replace hh := ob_some hh
    obtain ⟨s, hs, hh⟩ := hh
    split at hh
    · rename_i hl
      have hl := Nat.eq_of_beq_eq_true hl
      cases hx with
      | ptr hb =>
        rename_i b
        obtain ⟨h1, h2, h3⟩ := writeRow_run (P := P) hr hb hv.cells hh
        refine ⟨_, rfl, _, ?_, h2, h3⟩
        have := hv.cells.1
        simp only [Array.length_toList] at this
        unfold storeVar
        simp [sizeB_run hs, h1]
        omega
    · cases hh
  · cases hh
end Go.Proofs.YtjkifbkehochoaaGreatDoor.Ev
namespace Go.Proofs.YtjkifbkehochoaaGreatDoor.Ev

inductive Mk where
  | ptr
  | sl (n c : Nat)
  | mp
def Mk.val : Mk → Nat → Value
  | .ptr, i => .pointer (some ⟨i, 0, none⟩)
  | .sl n c, i => .slice (some ⟨i, 0, none⟩) n c
  | .mp, i => .map (some i)
noncomputable def Mk.ok : Mk → Bool
  | .sl _ c => Nat.ble (c + 1) unk
  | _ => true
theorem Mk.VR {φ : Ren} {mk : Mk} (h : mk.ok = true) {i b : Nat} (hb : φ i = some b) : VR φ (mk.val i) (mk.val b) := by
  cases mk with
  | ptr => exact .ptr hb
  | sl n c => exact .sl hb (CR.known (Nat.le_of_ble_eq_true h))
  | mp => exact .map hb
noncomputable def repl {α : Type} (l : List α) : Nat → List α
  | 0 => []
  | n + 1 => l ++ repl l n
theorem repl_eq (z : Array Value) : ∀ n, repl z.toList n = ((Array.range (n * z.size)).map fun i => z[i % z.size]!).toList := by
  intro n
  apply List.ext_getElem?
  intro i
  rw [Array.toList_map, Array.toList_range, List.getElem?_map]
  induction n generalizing i with
  | zero => simp [repl]
  | succ n ih =>
    simp only [repl]
    have hm : (n + 1) * z.size = n * z.size + z.size := by rw [Nat.add_mul]; omega
    by_cases hi : i < z.size
    · rw [List.getElem?_append_left (by simpa using hi), List.getElem?_range (by omega)]
      simp [Nat.mod_eq_of_lt hi, hi]
    · rw [List.getElem?_append_right (by simp; omega), Array.length_toList, ih]
      by_cases hj : i - z.size < n * z.size
      · rw [List.getElem?_range hj, List.getElem?_range (by omega)]
        simp only [Option.map_some]
        rw [show i % z.size = (i - z.size) % z.size from by rw [← Nat.sub_add_cancel (show z.size ≤ i by omega)]; simp]
      · rw [List.getElem?_eq_none (by simp; omega), List.getElem?_eq_none (by simp; omega)]
theorem map_range0 {α : Type} (f : Nat → α) : (Array.range 0).map f = #[] := by
  apply Array.ext'
  simp
theorem wrap64 (x : Int) (h : 0 ≤ x) (k : x ≤ 9223372036854775807) : IntKind.i64.wrap x = x := by
  have e : (2 ^ IntKind.i64.bits : Int) = 18446744073709551616 := by decide
  have f : (2 ^ (IntKind.i64.bits - 1) : Int) = 9223372036854775808 := by decide
  unfold IntKind.wrap
  rw [e, f]
  have : x % 18446744073709551616 = x := by omega
  simp only [this]
  rw [if_neg (by simp; omega)]
noncomputable def evA (P : Program) (ρ : Operand → Option Value) (o : Oper) : Option (Blk × Mk) := match o.op with
  | .alloc e => ob (zeroB P e) fun z => some (.cells (cellsV z) e none none, .ptr)
  | .box e x => ob (ρ x) fun v => some (.cells (cellsV v) e none none, .ptr)
  | .buildSlice t len parts => match P.underlying t with
    | some (.slice e) => ob (sizeB P e) fun s => ob (zeroB P e) fun z => match Nat.ble (len * s) 16777216 && Nat.beq (cellsV z).length s with
      | true => ob (mapO (fun p => ob (ρ p.2) fun v => some (p.1, v)) parts.toList) fun ps => ob (fillV (fun i => some (i * s, s)) (repl (cellsV z) len) ps) fun cs => some (.cells cs e none none, .sl len len)
      | false => none
    | _ => none
  | .makeSlice t l c => match P.underlying t, ρ l, ρ c with
    | some (.slice e), some (.int _ l), some (.int _ c) => ob (zeroB P e) fun z => match P.info? e with
      | some i => match Nat.ble i.bytes 100000 && Nat.beq (cellsV z).length i.size with
        | true => if 0 ≤ l ∧ l ≤ c ∧ c ≤ 1000000 then some (.cells (repl (cellsV z) c.toNat) e none none, .sl l.toNat c.toNat) else none
        | false => none
      | none => none
    | _, _, _ => none
  | .makeMap t r => match r with
    | none => some (.obj (.map #[] 0), .mp)
    | some x => match ρ x, P.underlying t with
      | some (.int _ _), some (.map _ _) => some (.obj (.map #[] 0), .mp)
      | _, _ => none
  | _ => none
theorem BR.row' {φ : Ren} {i : Nat} {cs : List Value} {c : Array Value} {e : TypeId} (h : LR φ cs c.toList) : BR φ i (some (.cells cs e none none)) (some (.cells c e (0, 0))) := by
  refine ⟨c, (0, 0), rfl, by have := h.1; simpa [EX] using this.symm, fun j x hx => ?_, rfl⟩
  obtain ⟨y, hy, hv⟩ := h.at hx
  exact ⟨y, by simpa using hy, hv⟩
set_option maxHeartbeats 2000000 in
theorem evA_run {P : Program} {φ : Ren} {w : World} {ρ : Operand → Option Value} {ρ' : Operand → Value} (hρ : ∀ x v, ρ x = some v → VR φ v (ρ' x)) {o : Oper} {B : Blk} {mk : Mk} (h : evA P ρ o = some (B, mk)) :
    ∃ o', (execOp ρ' o).run P w = .ok (.value (mk.val w.heap.size)) { w with heap := w.heap.push o' } ∧ (∀ φ' i, φ.le φ' → BR φ' i (some B) (some o')) ∧ Blk.live (some B) := by
  obtain ⟨dst, op, ty, pos, after, guard⟩ := o
  unfold evA at h
  cases op <;> simp only at h <;> first | (cases h; done) | skip
  case alloc e =>
    replace h := ob_some h
    obtain ⟨z, hz, h⟩ := h
    cases h
    obtain ⟨z1, z2⟩ := zeroB_run hz w
    refine ⟨.cells z.cells e, ?_, fun φ' i hle => BR.row' (VR.self 20 z z2).cells, trivial⟩
    have hs : (Instr.alloc e true (.tuple #[])).run P w = .ok (.pointer (some ⟨w.heap.size, 0, none⟩)) { w with heap := w.heap.push (.cells z.cells e) } := by
      simp [Instr.alloc, z1, newVar, newRow]
    exact exec_value rfl hs
  case box e x =>
    replace h := ob_some h
    obtain ⟨v, hv, h⟩ := h
    cases h
    refine ⟨.cells (ρ' x).cells e, ?_, fun φ' i hle => BR.row' ((hρ _ _ hv).mono hle).cells, trivial⟩
    exact exec_value (s := Instr.box e (ρ' x)) rfl (by simp [Instr.box, newVar, newRow, Mk.val])
  case buildSlice t len parts =>
    split at h
    · rename_i e hu
      replace h := ob_some h
      obtain ⟨s, hs, h⟩ := h
      replace h := ob_some h
      obtain ⟨z, hz, h⟩ := h
      split at h
      · rename_i hc
        simp only [Bool.and_eq_true] at hc
        have h24 := Nat.le_of_ble_eq_true hc.1
        have hzs := Nat.eq_of_beq_eq_true hc.2
        replace h := ob_some h
        obtain ⟨ps, hps, h⟩ := h
        replace h := ob_some h
        obtain ⟨cs, hcs, h⟩ := h
        cases h
        obtain ⟨z1, z2⟩ := zeroB_run hz w
        have hzc : z.cells.size = s := by rw [← hzs, cellsV_eq]; simp
        have hcell : LR φ (repl (cellsV z) len) ((Array.range (len * s)).map fun i => z.cells[i % s]!).toList := by
          rw [cellsV_eq, repl_eq, hzc]
          have hzr := (VR.self (φ := φ) 20 z z2).cells
          refine ⟨rfl, fun i x y hx hy => ?_⟩
          rw [hx] at hy
          cases hy
          simp only [Array.toList_map, List.getElem?_map] at hx
          cases hr : (Array.range (len * s)).toList[i]? with
          | none => rw [hr] at hx; cases hx
          | some j =>
            rw [hr] at hx
            cases hx
            have hil := (List.getElem?_eq_some_iff.1 hr).1
            simp at hil
            have hs0 : 0 < s := by
              rcases Nat.eq_zero_or_pos s with h0 | h0
              · subst h0; simp at hil
              · exact h0
            have hlt : j % s < z.cells.toList.length := by rw [Array.length_toList, hzc]; exact Nat.mod_lt _ hs0
            have hg : z.cells.toList[j % s]? = some z.cells[j % s]! := by
              rw [List.getElem?_eq_getElem hlt]
              congr 1
              simp at hlt
              simp [hlt]
            rw [cellsV_eq] at hzr
            exact hzr.2 _ _ _ hg hg
        obtain ⟨r', h1, h2⟩ := fill_sim (parts' := (parts.map fun (i, x) => (i, ρ' x)).toList) (parts_run hρ hps) hcell hcs
        refine ⟨.cells r' e, ?_, fun φ' i hle => BR.row' (h2.mono hle), trivial⟩
        refine exec_value rfl ?_
        have hgoal : ∀ (ps' : Array (Nat × Value)), Instr.fill (fun i => some (i * s, s)) ((Array.range (len * s)).map fun i => z.cells[i % s]!) ps'.toList = some r' → (Instr.buildSlice t len ps').run P w = .ok (Mk.val (.sl len len) w.heap.size) { w with heap := w.heap.push (.cells r' e) } := ?_
        · exact hgoal _ h1
        clear h1 hps hcs hcell
        intro ps' h1
        unfold Instr.buildSlice
        simp only [Sem.run_bind, run_underlying' hu, Result.andThen_ok, sizeB_run hs]
        rw [Sem.run_ite, if_neg (by omega)]
        by_cases h0 : len * s = 0
        · have e0 : ((Array.range (len * s)).map fun i => z.cells[i % s]!) = #[] := by rw [h0, map_range0]
          rw [e0] at h1
          simp only [h0, if_true, Sem.run_pure, Result.andThen_ok]
          have e1 : ((Array.range 0).map fun x => (#[] : Array Value)[x % (#[] : Array Value).size]!) = #[] := map_range0 _
          simp only [Sem.run_bind, Sem.run_pure, Result.andThen_ok]
          rw [e1, h1]
          simp [newRow, Mk.val]
        · simp only [h0, if_false, Sem.run_bind, z1, Result.andThen_ok, Sem.run_pure]
          rw [hzc, h1]
          simp [newRow, Mk.val]
      · cases h
    · cases h
  case makeSlice t l c =>
    split at h
    · rename_i e k1 l' k2 c' hu hl hc
      replace h := ob_some h
      obtain ⟨z, hz, h⟩ := h
      split at h
      · rename_i i hi
        split at h
        · rename_i hb
          simp only [Bool.and_eq_true] at hb
          have hbytes := Nat.le_of_ble_eq_true hb.1
          have hzs := Nat.eq_of_beq_eq_true hb.2
          split at h
          · rename_i hcond
            cases h
            obtain ⟨c0, c1, c2⟩ := hcond
            obtain ⟨z1, z2⟩ := zeroB_run hz w
            have hl' := (hρ _ _ hl).int'
            have hc' := (hρ _ _ hc).int'
            have hzc : z.cells.size = i.size := by rw [← hzs, cellsV_eq]; simp
            have hs : (sizeOf e).run P w = .ok i.size w := by unfold sizeOf; simp [run_typeInfo' hi]
            have wl := wrap64 l' c0 (by omega)
            have wc := wrap64 c' (by omega) (by omega)
            refine ⟨.cells ((Array.range (c'.toNat * z.cells.size)).map fun j => z.cells[j % z.cells.size]!) e, ?_, fun φ' j hle => BR.row' ?_, trivial⟩
            · refine exec_value (s := Instr.makeSlice t (ρ' l) (ρ' c)) rfl ?_
              rw [hl', hc']
              unfold Instr.makeSlice
              have hbc : ¬ ((i.bytes : Int) * c' > 2 ^ 48) := by
                have : (i.bytes : Int) * c' ≤ 100000 * 1000000 := Int.mul_le_mul (by omega) (by omega) (by omega) (by omega)
                have e48 : (2 : Int) ^ 48 = 281474976710656 := by decide
                rw [e48]
                omega
              simp only [asInt, asIntOf, Sem.run_bind, run_underlying' hu, Result.andThen_ok, Sem.run_pure, run_typeInfo' hi, wl, wc]
              rw [Sem.run_ite, if_neg (by simp only [Bool.or_eq_true, decide_eq_true_eq]; omega)]
              simp only [Sem.run_bind, Sem.run_pure, Result.andThen_ok, run_askRoom, hs]
              by_cases h0 : c'.toNat * i.size = 0
              · simp only [h0, if_true, Sem.run_pure, Result.andThen_ok]
                rw [hzc, h0, map_range0]
                simp only [Sem.run_bind, Sem.run_pure, Result.andThen_ok]
                rw [map_range0]
                simp [newRow, Mk.val]
              · simp only [h0, if_false, Sem.run_bind, z1, Result.andThen_ok, Sem.run_pure]
                rw [hzc]
                simp [newRow, Mk.val]
            · rw [cellsV_eq, repl_eq]
              have hzr := (VR.self (φ := φ') 20 z z2).cells
              refine ⟨rfl, fun q x y hx hy => ?_⟩
              rw [hx] at hy
              cases hy
              simp only [Array.toList_map, List.getElem?_map] at hx
              cases hr : (Array.range (c'.toNat * z.cells.size)).toList[q]? with
              | none => rw [hr] at hx; cases hx
              | some j =>
                rw [hr] at hx
                cases hx
                have hil := (List.getElem?_eq_some_iff.1 hr).1
                simp at hil
                have hs0 : 0 < z.cells.size := by
                  rcases Nat.eq_zero_or_pos z.cells.size with h0 | h0
                  · rw [h0] at hil; simp at hil
                  · exact h0
                have hlt : j % z.cells.size < z.cells.toList.length := by rw [Array.length_toList]; exact Nat.mod_lt _ hs0
                have hg : z.cells.toList[j % z.cells.size]? = some z.cells[j % z.cells.size]! := by
                  rw [List.getElem?_eq_getElem hlt]
                  congr 1
                  simp at hlt
                  simp [hlt]
                rw [cellsV_eq] at hzr
                exact hzr.2 _ _ _ hg hg
          · cases h
        · cases h
      · cases h
    · cases h
  case makeMap t r =>
    split at h
    · cases h
      exact ⟨.map #[] 0, exec_value (s := Instr.makeMap t none) rfl (by simp [Instr.makeMap, Mk.val]), fun φ' i hle => ⟨_, rfl, rfl, rfl, fun i x y hx => by simp at hx⟩, trivial⟩
    · rename_i x
      split at h
      · rename_i k n kt e hx hu
        cases h
        have := (hρ _ _ hx).int'
        refine ⟨.map #[] 0, exec_value (s := Instr.makeMap t (some (ρ' x))) rfl ?_, fun φ' i hle => ⟨_, rfl, rfl, rfl, fun i x y hx => by simp at hx⟩, trivial⟩
        rw [this]
        simp [Instr.makeMap, run_underlying' hu, asInt, asIntOf, Mk.val]
      · cases h
end Go.Proofs.YtjkifbkehochoaaGreatDoor.Ev
namespace Go.Proofs.YtjkifbkehochoaaGreatDoor.Ev

noncomputable def notInt : TypeDesc → Bool
  | .int _ => false
  | _ => true
noncomputable def addCells (P : Program) (C : Nat → Option Blk) (s : Nat) (t : TypeId) (x : Value) : Option (List Value × Nat) :=
  match P.underlying t, x with
  | some (.slice _), .slice none n _ => match n with
    | 0 => some ([], 0)
    | _ => none
  | some (.slice _), .slice (some ⟨id, off, none⟩) n _ => ob (rowAt C id off (n * s)) fun l => some (l, n)
  | some .string, .string z => match s with
    | 1 => some (z.data.toList.map (fun b => .int .u8 b.toNat), z.data.toList.length)
    | _ => none
  | _, _ => none
theorem bytes_LR {φ : Ren} (l : List UInt8) : LR φ (l.map fun b => Value.int .u8 b.toNat) (l.map fun b => Value.int .u8 b.toNat) := by
  refine ⟨rfl, fun i x y hx hy => ?_⟩
  rw [hx] at hy
  cases hy
  rw [List.getElem?_map] at hx
  cases hr : l[i]? with
  | none => rw [hr] at hx; cases hx
  | some b => rw [hr] at hx; cases hx; exact .int _ _
theorem addCells_run {P : Program} {φ : Ren} {C : Nat → Option Blk} {n : Nat} {w : World} (hr : HR φ C n w) {s : Nat} {t : TypeId} {x x' : Value} {nw : List Value × Nat} (hx : VR φ x x') (h : addCells P C s t x = some nw) :
    (∃ d, P.underlying t = some d ∧ notInt d = true) ∧ (∀ w, (Builtin.lenOf x').run P w = .ok nw.2 w) ∧ ∃ l', LR φ nw.1 l' ∧ nw.1.length = nw.2 * s ∧ ∀ w', w'.heap = w.heap → (Builtin.firstCells s nw.2 x').run P w' = .ok l'.toArray w' := by
  unfold addCells at h
  split at h
  · rename_i e n0 c0 hu
    split at h
    · cases h
      cases hx
      exact ⟨⟨_, hu, rfl⟩, fun w => rfl, [], LR.nil, by simp, fun w' _ => rfl⟩
    · cases h
  · rename_i e id off n0 c0 hu
    replace h := ob_some h
    obtain ⟨l, hl, h⟩ := h
    cases h
    cases hx with
    | sl hb hc =>
      obtain ⟨l', h1, h2, h3, h4⟩ := rowAt_run (P := P) hr hb hl
      refine ⟨⟨_, hu, rfl⟩, fun w => rfl, l', h2, h1, fun w' hw => ?_⟩
      obtain ⟨l2, k1, k2, k3, k4⟩ := rowAt_run (P := P) (hr.heap hw) hb hl
      have : l2 = l' := by
        have e1 : l.length = l2.length := k2.1
        have e2 : l.length = l'.length := h2.1
        apply List.ext_getElem?
        intro i
        by_cases hi : i < l'.length
        · have hi2 : i < l2.length := by rw [← k2.1, h2.1]; exact hi
          have a := h3 i l'[i] (List.getElem?_eq_getElem hi)
          have b := k3 i l2[i] (List.getElem?_eq_getElem hi2)
          have e : ∀ (x : Addr), w'.cell? x = w.cell? x := fun x => by simp [World.cell?, hw]
          rw [e, a] at b
          rw [List.getElem?_eq_getElem hi, List.getElem?_eq_getElem hi2]
          exact b.symm
        · rw [List.getElem?_eq_none (by omega), List.getElem?_eq_none (by omega)]
      rw [this] at k4
      exact k4
  · rename_i z hu
    split at h
    · cases h
      cases hx
      refine ⟨⟨_, hu, rfl⟩, fun w => rfl, _, bytes_LR _, by simp, fun w' _ => ?_⟩
      unfold Builtin.firstCells
      simp only [Sem.run_pure]
      congr 1
      rw [extract_bytes]
      apply Array.ext'
      simp only [Array.toList_map, List.drop_zero, Nat.sub_zero]
      rw [List.take_of_length_le (Nat.le_refl _)]
    · cases h
  · cases h
noncomputable def growOK (P : Program) (e : TypeId) (sz need : Nat) : Bool := match P.info? e, zeroB P e with
  | some i, some z => Nat.ble need 1000000 && Nat.ble (need * i.bytes) 1000000000000 && Nat.beq (cellsV z).length sz
  | _, _ => false
theorem growOK_spec {P : Program} {e : TypeId} {sz need : Nat} (h : growOK P e sz need = true) : ∃ i z, P.info? e = some i ∧ zeroB P e = some z ∧ need ≤ 1000000 ∧ need * i.bytes ≤ 1000000000000 ∧ z.cells.size = sz := by
  unfold growOK at h
  split at h
  · rename_i i z hi hz
    simp only [Bool.and_eq_true] at h
    exact ⟨i, z, hi, hz, Nat.le_of_ble_eq_true h.1.1, Nat.le_of_ble_eq_true h.1.2, by have := Nat.eq_of_beq_eq_true h.2; rw [cellsV_eq] at this; simpa using this⟩
  · cases h
theorem zeroCells_size (z : Array Value) (n : Nat) : (Builtin.zeroCells z n).size = n * z.size := by simp [Builtin.zeroCells]
/-- append, where the new row does not fit -/
theorem append_grow {P : Program} {w : World} {sT xT ty e : TypeId} {dx : TypeDesc} {s x : Value} {base : Option Addr} {len cap n sz : Nat} {old new : List Value} (hs : s = .slice base len cap) (hu : P.underlying sT = some (.slice e)) (hdx : P.underlying xT = some dx) (hint : notInt dx = true)
    (hsz : sizeB P e = some sz) (hn : ∀ w, (Builtin.lenOf x).run P w = .ok n w) (hgt : cap < len + n) (hg : growOK P e sz (len + n) = true)
    (hold : ∀ w', w'.heap = w.heap → (Builtin.firstCells sz len s).run P w' = .ok old.toArray w') (hnew : ∀ w', w'.heap = w.heap → (Builtin.firstCells sz n x).run P w' = .ok new.toArray w') (hol : old.length = len * sz) (hnl : new.length = n * sz) :
    ∃ k rest w', len + n ≤ k ∧ (Builtin.append_ #[sT, xT] ty #[s, x]).run P w = .ok (.slice (some ⟨w.heap.size, 0, none⟩) (len + n) k) w' ∧ w'.heap = w.heap.push (.cells (old ++ new ++ rest).toArray e) ∧ (old ++ new ++ rest).length = k * sz ∧ Same w w' := by
  obtain ⟨i, z, hi, hz, q1, q2, q3⟩ := growOK_spec hg
  obtain ⟨z1, z2⟩ := zeroB_run hz w
  subst hs
  have hty : (typeInfo e).run P w = .ok i w := run_typeInfo' hi w
  have hfit := growslice_fits (need := len + n) (old := cap) (bytes := i.bytes) hgt (by omega)
  have hi64 : IntKind.i64.max = 9223372036854775807 := by decide
  have e48 : (2 : Nat) ^ 48 = 281474976710656 := by decide
  have e63 : (2 : Nat) ^ 63 = 9223372036854775808 := by decide
  obtain ⟨k, hk⟩ : ∃ k, k = (Question.appendCap (len + n) cap e).cut (w.tape w.drawn (.appendCap (len + n) cap e)) := ⟨_, rfl⟩
  have hkn : len + n ≤ k := by rw [hk]; simp [Question.cut]
  have earr : old.toArray ++ new.toArray ++ Builtin.zeroCells z.cells (k - (len + n)) = (old ++ new ++ (Builtin.zeroCells z.cells (k - (len + n))).toList).toArray := by
    apply Array.ext'
    simp
  refine ⟨k, (Builtin.zeroCells z.cells (k - (len + n))).toList, { w with drawn := w.drawn + 1, heap := w.heap.push (.cells (old ++ new ++ (Builtin.zeroCells z.cells (k - (len + n))).toList).toArray e) }, hkn, ?_, rfl, ?_, ⟨rfl, rfl, rfl⟩⟩
  · cases dx <;> first | (cases hint; done) | skip
    all_goals
      unfold Builtin.append_
      simp only [show (#[sT, xT] : Array TypeId)[0]? = some sT from rfl, show (#[sT, xT] : Array TypeId)[1]? = some xT from rfl, show (#[Value.slice base len cap, x] : Array Value)[0]? = some (.slice base len cap) from rfl, show (#[Value.slice base len cap, x] : Array Value)[1]? = some x from rfl]
      simp only [Sem.run_bind, run_underlying' hu, run_underlying' hdx, Result.andThen_ok, sizeB_run hsz, Sem.run_pure, Bool.false_eq_true, if_false, hn]
      rw [Sem.run_ite, if_neg (by omega)]
      rw [Sem.run_bind, hty]
      simp only [Result.andThen_ok]
      rw [Sem.run_ite, if_neg (by rw [hi64]; omega)]
      simp only [Sem.run_bind, hty, Result.andThen_ok, Sem.run_pure]
      rw [Sem.run_ite, if_neg (by rw [e48]; omega)]
      simp only [Sem.run_bind, run_choose, Question.forced, Bool.false_eq_true, if_false, Result.andThen_ok, ← hk]
      rw [run_typeInfo' hi]
      simp only [Result.andThen_ok, run_askRoom]
      rw [hold { w with drawn := w.drawn + 1 } rfl]
      simp only [Result.andThen_ok]
      simp only [Bool.not_false, if_true, Bool.false_eq_true, if_false]
      rw [hnew { w with drawn := w.drawn + 1 } rfl]
      simp only [Result.andThen_ok]
      rw [(zeroB_run hz { w with drawn := w.drawn + 1 }).1]
      simp only [Result.andThen_ok, newRow, Sem.run_bind, run_newObj, Sem.run_pure]
      rw [earr]
  · simp only [List.length_append, Array.length_toList, hol, hnl, zeroCells_size, q3]
    rw [← Nat.add_mul, ← Nat.add_mul]
    congr 1
    omega
theorem append_fits {P : Program} {w w' : World} {sT xT ty e : TypeId} {dx : TypeDesc} {x : Value} {a : Addr} {len cap n sz : Nat} {new : List Value} (hu : P.underlying sT = some (.slice e)) (hdx : P.underlying xT = some dx) (hint : notInt dx = true)
    (hsz : sizeB P e = some sz) (hn : ∀ w, (Builtin.lenOf x).run P w = .ok n w) (hle : len + n ≤ cap)
    (hnew : (Builtin.firstCells sz n x).run P w = .ok new.toArray w) (hst : (storeCells (a.add (len * sz)) new).run P w = .ok () w') :
    (Builtin.append_ #[sT, xT] ty #[.slice (some a) len cap, x]).run P w = .ok (.slice (some a) (len + n) cap) w' := by
  cases dx <;> first | (cases hint; done) | skip
  all_goals
    unfold Builtin.append_
    simp only [show (#[sT, xT] : Array TypeId)[0]? = some sT from rfl, show (#[sT, xT] : Array TypeId)[1]? = some xT from rfl, show (#[Value.slice (some a) len cap, x] : Array Value)[0]? = some (.slice (some a) len cap) from rfl, show (#[Value.slice (some a) len cap, x] : Array Value)[1]? = some x from rfl]
    simp only [Sem.run_bind, run_underlying' hu, run_underlying' hdx, Result.andThen_ok, sizeB_run hsz, Sem.run_pure, Bool.false_eq_true, if_false, hn]
    rw [Sem.run_ite, if_pos hle]
    simp only [Bool.not_false, if_true, Bool.false_eq_true, if_false, Sem.run_bind, hnew, Result.andThen_ok, hst, Sem.run_pure]
end Go.Proofs.YtjkifbkehochoaaGreatDoor.Ev
namespace Go.Proofs.YtjkifbkehochoaaGreatDoor.Ev

noncomputable def fzOk (fz : Option Nat) (k : Nat) : Bool := match fz with
  | none => true
  | some q => Nat.ble q k
noncomputable def growV (P : Program) (e : TypeId) (sz need : Nat) (old new : List Value) (fz : Option Nat) (h : Hp) : Option (Value × Hp) :=
  match growOK P e sz need && Nat.ble (h.n + 1) 65536 with
  | true => some (.slice (some ⟨h.n, 0, none⟩) need unk, h.new (.cells (old ++ new) e (some sz) fz))
  | false => none
noncomputable def appendV (P : Program) (sT xT : TypeId) (s x : Value) (h : Hp) : Option (Value × Hp) :=
  match P.underlying sT, s with
  | some (.slice e), .slice base len cap => ob (sizeB P e) fun sz => ob (addCells P h.get sz xT x) fun nw =>
    match base with
    | none => match Nat.beq len 0 && Nat.beq cap 0 with
      | true => match Nat.beq nw.2 0 with
        | true => some (.slice none 0 0, h)
        | false => growV P e sz (len + nw.2) [] nw.1 none h
      | false => none
    | some ⟨id, off, none⟩ => match Nat.beq cap unk with
      | false => match Nat.ble (len + nw.2) cap with
        | true => match Nat.beq nw.2 0 with
          | true => some (.slice (some ⟨id, off, none⟩) len cap, h)
          | false => ob (writeRow h id (off + len * sz) nw.1) fun h' => some (.slice (some ⟨id, off, none⟩) (len + nw.2) cap, h')
        | false => ob (rowAt h.get id off (len * sz)) fun old => growV P e sz (len + nw.2) old nw.1 none h
      | true => match Nat.beq nw.2 0 with
        | true => some (.slice (some ⟨id, off, none⟩) len cap, h)
        | false => match off, h.get id with
          | 0, some (.cells cs e' (some s') fz) => match Nat.beq e e' && Nat.beq s' sz && fzOk fz (len * sz) && Nat.ble (len * sz) cs.length && nw.1.all oneB with
            | true => growV P e sz (len + nw.2) (cs.take (len * sz)) nw.1 fz (h.put id .dead)
            | false => none
          | _, _ => none
    | _ => none
  | _, _ => none
theorem growV_run {P : Program} {φ : Ren} {h h' h0 : Hp} {w : World} (hr : HR φ h0.get h0.n w) (hn0 : h.n = h0.n) (hk : ∀ j, h.get j = h0.get j ∨ h.get j = some .dead) {sT xT ty e : TypeId} {dx : TypeDesc} {s' x' v : Value} {base : Option Addr} {len cap n sz : Nat} {old old' new new' : List Value} {fz : Option Nat}
    (hs : s' = .slice base len cap) (hu : P.underlying sT = some (.slice e)) (hdx : P.underlying xT = some dx) (hint : notInt dx = true) (hsz : sizeB P e = some sz) (hn : ∀ w, (Builtin.lenOf x').run P w = .ok n w) (hgt : cap < len + n)
    (hold : ∀ w', w'.heap = w.heap → (Builtin.firstCells sz len s').run P w' = .ok old'.toArray w') (hnew : ∀ w', w'.heap = w.heap → (Builtin.firstCells sz n x').run P w' = .ok new'.toArray w') (ho : LR φ old old') (hw : LR φ new new') (hol : old.length = len * sz) (hnl : new.length = n * sz)
    (hh : growV P e sz (len + n) old new fz h = some (v, h')) :
    ∃ φ' v' w', VR φ' v v' ∧ (Builtin.append_ #[sT, xT] ty #[s', x']).run P w = .ok v' w' ∧ Step φ h0.get h0.n w φ' h'.get h'.n w' := by
  unfold growV at hh
  split at hh
  · rename_i hc
    simp only [Bool.and_eq_true] at hc
    have hb := Nat.le_of_ble_eq_true hc.2
    cases hh
    obtain ⟨k, rest, w', g1, g2, g3, g4, g5⟩ := append_grow (P := P) (w := w) (ty := ty) hs hu hdx hint hsz hn hgt hc.1 hold hnew (by rw [← ho.1]; exact hol) (by rw [← hw.1]; exact hnl)
    have hst := hr.kill (C' := h.get) hk
    rw [← hn0] at hst
    have hn' : h.n = h0.n := hn0
    have hal : Step φ h.get h.n w (φ.at h.n w.heap.size k) (h.new (.cells (old ++ new) e (some sz) fz)).get (h.n + 1) w' := by
      refine Step.alloc (B := .cells (old ++ new) e (some sz) fz) (o := .cells (old' ++ new' ++ rest).toArray e) hst.hr hb g3 ⟨_, (0, 0), rfl, ?_, fun i x hx => ?_, ?_⟩ trivial ?_ fun j hj => ?_
      · simp only [EX, Ren.at_k]
        simpa using g4
      · obtain ⟨y, hy, hv⟩ := (ho.append hw).at hx
        refine ⟨y, ?_, hv.mono (Ren.at_ext hst.hr.fresh)⟩
        have hlt := (List.getElem?_eq_some_iff.1 hy).1
        rw [List.getElem?_toArray, List.getElem?_append_left hlt]
        exact hy
      · cases fz with
        | none => rfl
        | some q => intro i _ _ hc; simp at hc
      · rw [Hp.get_new h _ (by omega), if_pos rfl]
      · rw [Hp.get_new h _ (by omega), if_neg hj]
    have hall := (show Step φ h0.get h0.n w φ h.get h.n w by rw [hn0] at hst ⊢; exact hst).trans hal
    refine ⟨_, _, w', ?_, g2, hall⟩
    refine .sl (Ren.at_same ..) (.inl ⟨rfl, g1, fun _ => (Ren.at_k ..).symm⟩)
  · cases hh
end Go.Proofs.YtjkifbkehochoaaGreatDoor.Ev
namespace Go.Proofs.YtjkifbkehochoaaGreatDoor.Ev

theorem rowAt_len {φ : Ren} {C : Nat → Option Blk} {n : Nat} {w : World} (hr : HR φ C n w) {P : Program} {id b off k len cap : Nat} {l : List Value} {sz : Nat} (hb : φ id = some b) (h : rowAt C id off (len * sz) = some l) :
    ∃ l', LR φ l l' ∧ l.length = len * sz ∧ ∀ w', w'.heap = w.heap → (Builtin.firstCells sz len (.slice (some ⟨b, off, none⟩) len cap)).run P w' = .ok l'.toArray w' := by
  obtain ⟨l', h1, h2, h3, h4⟩ := rowAt_run (P := P) hr hb h
  refine ⟨l', h2, h1, fun w' hw => ?_⟩
  obtain ⟨l2, k1, k2, k3, k4⟩ := rowAt_run (P := P) (hr.heap hw) hb h
  have : l2 = l' := by
    have e1 : l.length = l2.length := k2.1
    have e2 : l.length = l'.length := h2.1
    apply List.ext_getElem?
    intro i
    by_cases hi : i < l'.length
    · have hi2 : i < l2.length := by omega
      have a := h3 i l'[i] (List.getElem?_eq_getElem hi)
      have b := k3 i l2[i] (List.getElem?_eq_getElem hi2)
      have e : ∀ (x : Addr), w'.cell? x = w.cell? x := fun x => by simp [World.cell?, hw]
      rw [e, a] at b
      rw [List.getElem?_eq_getElem hi, List.getElem?_eq_getElem hi2]
      exact b.symm
    · rw [List.getElem?_eq_none (by omega), List.getElem?_eq_none (by omega)]
  rw [this] at k4
  exact k4
theorem rowAt_cells {C : Nat → Option Blk} {id off k : Nat} {cs : List Value} {e : TypeId} {ex fz : Option Nat} (hC : C id = some (.cells cs e ex fz)) (h : off + k ≤ cs.length) : rowAt C id off k = some ((cs.drop off).take k) := by
  cases k with
  | zero => simp [rowAt]
  | succ k =>
    unfold rowAt
    simp only [hC]
    have : ((cs.drop off).take (k + 1)).length.beq (k + 1) = true := by
      rw [List.length_take, List.length_drop, Nat.min_eq_left (by omega), Nat.beq_refl]
    simp only [this]
theorem appendV_run {P : Program} {φ : Ren} {h h' : Hp} {w : World} (hr : HR φ h.get h.n w) {sT xT ty : TypeId} {s x s' x' v : Value} (hs : VR φ s s') (hx : VR φ x x') (hh : appendV P sT xT s x h = some (v, h')) :
    ∃ φ' v' w', VR φ' v v' ∧ (Builtin.append_ #[sT, xT] ty #[s', x']).run P w = .ok v' w' ∧ Step φ h.get h.n w φ' h'.get h'.n w' := by
  unfold appendV at hh
  split at hh
  · rename_i e base len cap hu
    replace hh := ob_some hh
    obtain ⟨sz, hsz, hh⟩ := hh
    replace hh := ob_some hh
    obtain ⟨nw, hnw, hh⟩ := hh
    obtain ⟨⟨dx, hdx, hint⟩, hlen, l', hl1, hl2, hl3⟩ := addCells_run (P := P) hr hx hnw
    split at hh
    · -- nil
      split at hh
      · rename_i hc
        simp only [Bool.and_eq_true] at hc
        have hl0 := Nat.eq_of_beq_eq_true hc.1
        have hc0 := Nat.eq_of_beq_eq_true hc.2
        subst hl0 hc0
        cases hs
        split at hh
        · rename_i hn0
          have hn0 := Nat.eq_of_beq_eq_true hn0
          cases hh
          have hl' : l' = [] := by
            have := hl1.1
            rw [hl2, hn0] at this
            cases l' with
            | nil => rfl
            | cons a b => simp at this
          refine ⟨φ, _, w, .sl0 0 0, ?_, Step.refl hr⟩
          have hnew := hl3 w rfl
          rw [hn0, hl'] at hnew
          cases dx <;> first | (cases hint; done) | skip
          all_goals
            unfold Builtin.append_
            simp only [show (#[sT, xT] : Array TypeId)[0]? = some sT from rfl, show (#[sT, xT] : Array TypeId)[1]? = some xT from rfl, show (#[Value.slice none 0 0, x'] : Array Value)[0]? = some (.slice none 0 0) from rfl, show (#[Value.slice none 0 0, x'] : Array Value)[1]? = some x' from rfl]
            simp only [Sem.run_bind, run_underlying' hu, run_underlying' hdx, Result.andThen_ok, sizeB_run hsz, Sem.run_pure, Bool.false_eq_true, if_false, hlen, hn0]
            rw [Sem.run_ite, if_pos (by omega)]
            simp only [Bool.not_false, if_true, Sem.run_bind, hnew, Result.andThen_ok, Sem.run_pure]
        · rename_i hn0
          have hpos : 0 < nw.2 := by
            rcases Nat.eq_zero_or_pos nw.2 with h0 | h0
            · rw [h0] at hn0; cases hn0
            · exact h0
          exact growV_run hr rfl (fun _ => .inl rfl) (n := nw.2) (old' := []) (new' := l') rfl hu hdx hint hsz hlen (by omega) (fun w' _ => rfl) hl3 LR.nil hl1 (by simp) hl2 hh
      · cases hh
    · rename_i id off
      cases hs with
      | @sl _ _ b _ _ cap' hb hc =>
        split at hh
        · rename_i hcu
          have hce := hc.of_known hcu
          subst hce
          have hne : cap' ≠ unk := fun he => by
            rw [he, Nat.beq_refl] at hcu
            cases hcu
          have hcr : ∀ n, CR (φ.k id) off n cap' cap' := fun n => .inr ⟨hne, rfl⟩
          split at hh
          · rename_i hle
            have hle := Nat.le_of_ble_eq_true hle
            split at hh
            · rename_i hn0
              have hn0 := Nat.eq_of_beq_eq_true hn0
              cases hh
              have hl' : l' = [] := by
                have := hl1.1
                rw [hl2, hn0] at this
                cases l' with
                | nil => rfl
                | cons a b => simp at this
              refine ⟨φ, _, w, .sl hb hc, ?_, Step.refl hr⟩
              have := append_fits (P := P) (w := w) (w' := w) (ty := ty) (a := ⟨b, off, none⟩) (len := len) (cap := cap') (n := nw.2) (new := l') hu hdx hint hsz hlen hle (hl3 w rfl) (by rw [hl']; rfl)
              rw [hn0] at this
              exact this
            · replace hh := ob_some hh
              obtain ⟨h1, hw1, hh⟩ := hh
              cases hh
              obtain ⟨g1, g2, g3⟩ := writeRow_run (P := P) hr hb hl1 hw1
              refine ⟨φ, _, _, .sl hb (hcr _), append_fits hu hdx hint hsz hlen hle (hl3 w rfl) (by rw [add_none]; exact g1), g3⟩
          · rename_i hle
            have hgt : cap' < len + nw.2 := by
              rcases Nat.lt_or_ge cap' (len + nw.2) with h0 | h0
              · exact h0
              · rw [Nat.ble_eq_true_of_le h0] at hle; cases hle
            replace hh := ob_some hh
            obtain ⟨old, hold, hh⟩ := hh
            obtain ⟨o', o1, o2, o3⟩ := rowAt_len (P := P) (k := 0) (cap := cap') hr hb hold
            exact growV_run hr rfl (fun _ => .inl rfl) (n := nw.2) rfl hu hdx hint hsz hlen hgt o3 hl3 o1 hl1 o2 hl2 hh
        · rename_i hcu
          obtain ⟨he, hle, hq⟩ := hc.of_unk hcu
          split at hh
          · rename_i hn0
            have hn0 := Nat.eq_of_beq_eq_true hn0
            cases hh
            have hl' : l' = [] := by
              have := hl1.1
              rw [hl2, hn0] at this
              cases l' with
              | nil => rfl
              | cons a b => simp at this
            refine ⟨φ, _, w, .sl hb hc, ?_, Step.refl hr⟩
            have := append_fits (P := P) (w := w) (w' := w) (ty := ty) (a := ⟨b, off, none⟩) (len := len) (cap := cap') (n := nw.2) (new := l') hu hdx hint hsz hlen (by omega) (hl3 w rfl) (by rw [hl']; rfl)
            rw [hn0] at this
            exact this
          · rename_i hn0
            have hpos : 0 < nw.2 := by
              rcases Nat.eq_zero_or_pos nw.2 with h0 | h0
              · rw [h0] at hn0; cases hn0
              · exact h0
            split at hh
            · rename_i cs e' s1 fz hC
              split at hh
              · rename_i hcond
                simp only [Bool.and_eq_true] at hcond
                obtain ⟨⟨⟨⟨c1, c2⟩, c3⟩, c4⟩, c5⟩ := hcond
                have c1 := Nat.eq_of_beq_eq_true c1
                have c2 := Nat.eq_of_beq_eq_true c2
                have c4 := Nat.le_of_ble_eq_true c4
                subst c1 c2
                have hidn := (hr.lt id b hb).1
                have hbd := hr.bnd
                have hrow := hr.row id b hb
                rw [hC] at hrow
                obtain ⟨c, f, q1, q2, q3, q4⟩ := hrow
                have hlive : Blk.live (h.get id) := by rw [hC]; trivial
                have hkill : ∀ j, (h.put id .dead).get j = h.get j ∨ (h.put id .dead).get j = some .dead := fun j => by
                  rw [Hp.get_put h _ (by omega)]
                  by_cases hji : j = id
                  · rw [if_pos hji]; exact .inr rfl
                  · rw [if_neg hji]; exact .inl rfl
                have hrowAt : rowAt h.get id 0 (len * s1) = some (cs.take (len * s1)) := by
                  have := rowAt_cells (k := len * s1) (off := 0) hC (by omega)
                  rw [List.drop_zero] at this
                  exact this
                obtain ⟨o', o1, o2, o3⟩ := rowAt_len (P := P) (k := 0) (cap := cap') hr hb hrowAt
                by_cases hfit : len + nw.2 ≤ cap'
                · -- in place
                  unfold growV at hh
                  split at hh
                  · rename_i hg
                    simp only [Bool.and_eq_true] at hg
                    have hbn := Nat.le_of_ble_eq_true hg.2
                    have hn1 : (h.put id .dead).n = h.n := rfl
                    rw [hn1] at hbn
                    cases hh
                    have hcap := hq rfl
                    simp only [EX] at q2
                    have hsize : (len + nw.2) * s1 ≤ c.size := by
                      rw [q2, ← hcap]
                      exact Nat.mul_le_mul_right _ hfit
                    rw [Nat.add_mul] at hsize
                    have hll : l'.length = nw.2 * s1 := by rw [← hl1.1, hl2]
                    obtain ⟨t1, t2, t3⟩ := heap_setCells b l' (0 + len * s1) w
                    obtain ⟨c', u1, u2, u3⟩ := t3 c e f q1 (by omega)
                    have hst : (storeCells ((⟨b, 0, none⟩ : Addr).add (len * s1)) l').run P w = .ok () (w.setCells b (0 + len * s1) l') := by
                      rw [add_none]
                      have := run_storeCells_cells (P := P) b (0 + len * s1) l' 0 w (fun j hj => by simp [World.cell?, q1]; omega) (fun j hj => by
                        obtain ⟨lo, hi⟩ := f
                        simp only [World.frozen?, q1]
                        cases fz with
                        | none => cases q4; simp
                        | some k =>
                          have := Nat.le_of_ble_eq_true c3
                          have := q4 (0 + len * s1 + 0 + j) (by omega) (by omega)
                          simp only at this
                          simp
                          omega) (fun v hvm => by
                          obtain ⟨i, hi⟩ := List.getElem?_of_mem hvm
                          have hil : i < nw.1.length := by rw [hl1.1]; exact (List.getElem?_eq_some_iff.1 hi).1
                          exact (hl1.2 i nw.1[i] v (List.getElem?_eq_getElem hil) hi).one (List.all_eq_true.1 c5 _ (List.getElem_mem hil)))
                      simpa using this
                    have hstep : Step φ h.get h.n w (φ.at h.n b cap') ((h.put id .dead).new (.cells (cs.take (len * s1) ++ nw.1) e (some s1) fz)).get (h.n + 1) (w.setCells b (0 + len * s1) l') := by
                      refine Step.rename (B := .cells (cs.take (len * s1) ++ nw.1) e (some s1) fz) hr hb hlive hbn t1 t2 ⟨c', f, u1, ?_, fun i x hx => ?_, by rw [u2]; exact q4⟩ trivial ?_ ?_ fun j hj hne => ?_
                      · simp only [EX, Ren.at_k]
                        rw [u2, q2, hcap]
                      · rw [u3]
                        by_cases hi : i < len * s1
                        · rw [List.getElem?_append_left (by rw [List.length_take]; omega), List.getElem?_take, if_pos hi] at hx
                          rw [if_neg (by omega)]
                          obtain ⟨y, hy, hv⟩ := q3 i x hx
                          exact ⟨y, hy, hv.mono (Ren.at_ext hr.fresh)⟩
                        · rw [List.getElem?_append_right (by rw [List.length_take]; omega), List.length_take, Nat.min_eq_left c4] at hx
                          have hlt := (List.getElem?_eq_some_iff.1 hx).1
                          rw [if_pos (by omega)]
                          obtain ⟨y, hy, hv⟩ := hl1.at hx
                          exact ⟨y, by rw [Nat.zero_add]; exact hy, hv.mono (Ren.at_ext hr.fresh)⟩
                      · rw [Hp.get_new _ _ (by rw [hn1]; omega), if_pos hn1.symm]
                      · rw [Hp.get_new _ _ (by rw [hn1]; omega), if_neg (by rw [hn1]; omega), Hp.get_put h _ (by omega), if_pos rfl]
                      · rw [Hp.get_new _ _ (by rw [hn1]; omega), if_neg (by rw [hn1]; exact hj), Hp.get_put h _ (by omega), if_neg hne]
                    refine ⟨_, _, _, ?_, append_fits hu hdx hint hsz hlen hfit (hl3 w rfl) hst, hstep⟩
                    refine .sl (Ren.at_same ..) (.inl ⟨rfl, hfit, fun _ => (Ren.at_k ..).symm⟩)
                  · cases hh
                · exact growV_run (h := h.put id .dead) (h0 := h) hr rfl hkill (n := nw.2) rfl hu hdx hint hsz hlen (by omega) o3 hl3 o1 hl1 o2 hl2 hh
              · cases hh
            · cases hh
    · cases hh
  · cases hh
end Go.Proofs.YtjkifbkehochoaaGreatDoor.Ev
