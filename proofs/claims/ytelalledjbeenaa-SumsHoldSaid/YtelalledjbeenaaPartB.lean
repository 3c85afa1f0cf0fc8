/- The walk of SumsParts. -/
import Derived.Test.YtelalledjbeenaaPartA
import Derived.Laws.AppendOwnNone
namespace Go.Proofs.Ytelalledjbeenaa
open Go.RowKit Fl

/-- Accs, by an array of pointers -/
structure Four (w : World) (B a : Nat) (gs : List Nat) (ss : List AS) : Prop where
  len : gs.length = ss.length
  ptr : ∀ j g : Nat, gs[j]? = some g → w.cell? ⟨a, j, none⟩ = some (.pointer (some ⟨g, 0, none⟩))
  cel : ∀ j : Nat, j < 4 → ∃ v, w.cell? ⟨a, j, none⟩ = some v
  fr : ∀ j : Nat, w.frozen? ⟨a, j, none⟩ = false
  acc : ∀ (j g : Nat) (s : AS), gs[j]? = some g → ss[j]? = some s → AccAt w g s
  lt : ∀ g ∈ gs, B ≤ g ∧ g < w.heap.size ∧ g ≠ a
  nd : gs.Nodup
  alt : B ≤ a ∧ a < w.heap.size
theorem Four.below {w w' : World} {B a : Nat} {gs : List Nat} {ss : List AS} (h : Four w B a gs ss) (hb : Below w.heap.size w w') : Four w' B a gs ss :=
  ⟨h.len, fun j g hj => (hb.cell (p := ⟨a, j, none⟩) h.alt.2).trans (h.ptr j g hj), fun j hj => by rw [hb.cell (p := ⟨a, j, none⟩) h.alt.2]; exact h.cel j hj, fun j => (hb.frozen (p := ⟨a, j, none⟩) h.alt.2).trans (h.fr j),
   fun j g s hj hs => (h.acc j g s hj hs).below hb (h.lt g (List.mem_of_getElem? hj)).2.1, fun g hg => by have := h.lt g hg; have := hb.size; omega, h.nd, ⟨h.alt.1, Nat.lt_of_lt_of_le h.alt.2 hb.size⟩⟩
theorem Four.start (w : World) (B : Nat) (hB : B ≤ w.heap.size) (t : TypeId) : Four (w.alloc (.cells #[.pointer none, .pointer none, .pointer none, .pointer none] t)) B w.heap.size [] [] :=
  ⟨rfl, fun j g hj => by simp at hj, fun j hj => by
    rw [World.cell?_alloc_new w _ t j]
    exact ⟨_, Array.getElem?_eq_getElem (by simpa using hj)⟩, fun j => by simp [go_sem], fun j g s hj => by simp at hj, fun g hg => by simp at hg, List.nodup_nil, ⟨hB, by simp⟩⟩
theorem Four.store {w : World} {B a : Nat} {gs : List Nat} {ss : List AS} (h : Four w B a gs ss) (j : Nat) (hj : j < 4) (g : Nat) :
    (Go.store ⟨a, j, none⟩ (.pointer (some ⟨g, 0, none⟩))).run Try.prog w = .ok () (w.setCell ⟨a, j, none⟩ (.pointer (some ⟨g, 0, none⟩))) := by
  obtain ⟨v, hv⟩ := h.cel j hj
  rw [run_store Try.prog _ _ _ _ rfl, hv, h.fr j]; rfl
theorem AccAt.setFar {w : World} {b : Nat} {s : AS} (h : AccAt w b s) {p : Addr} (hp : p.block ≠ b) (hb : b < w.heap.size) (v : Value) : AccAt (w.setCell p v) b s :=
  h.only (b := p.block) ⟨rfl, rfl, rfl, by simp [World.setCell], fun k _ hk => Below.heap_setCell w p v k hk⟩ hb (fun e => hp e.symm)
theorem Four.push {w : World} {B a g : Nat} {gs : List Nat} {ss : List AS} {s : AS} (h : Four w B a gs ss) (hg : AccAt w g s) (hlt : g < w.heap.size) (hB : B ≤ g) (hne : g ≠ a) (hnew : g ∉ gs) (h4 : gs.length < 4) :
    Four (w.setCell ⟨a, gs.length, none⟩ (.pointer (some ⟨g, 0, none⟩))) B a (gs ++ [g]) (ss ++ [s]) := by
  have hc : ∀ j, j ≠ gs.length → (w.setCell ⟨a, gs.length, none⟩ (.pointer (some ⟨g, 0, none⟩))).cell? ⟨a, j, none⟩ = w.cell? ⟨a, j, none⟩ := fun j hj => World.cell?_setCell_other _ _ _ _ (fun e => hj (by injection e with _ e; exact e.symm ▸ rfl))
  obtain ⟨v0, hv0⟩ := h.cel gs.length h4
  have hs : (w.setCell ⟨a, gs.length, none⟩ (.pointer (some ⟨g, 0, none⟩))).cell? ⟨a, gs.length, none⟩ = some (.pointer (some ⟨g, 0, none⟩)) := World.cell?_setCell_same _ _ _ hv0
  refine ⟨by simp [h.len], fun j g' hj => ?_, fun j hj => ?_, fun j => (World.frozen?_setCell ..).trans (h.fr j), fun j g' s' hj hs' => ?_, fun g' hg' => ?_, ?_, ⟨h.alt.1, by simpa [World.setCell] using h.alt.2⟩⟩
  · by_cases hjl : j < gs.length
    · rw [List.getElem?_append_left hjl] at hj
      rw [hc j (by omega)]; exact h.ptr j g' hj
    · rw [List.getElem?_append_right (by omega)] at hj
      have e0 : j - gs.length = 0 := by
        rcases Nat.eq_zero_or_pos (j - gs.length) with h0 | h0
        · exact h0
        · rw [List.getElem?_eq_none (by simp; omega)] at hj; cases hj
      rw [e0] at hj
      simp only [List.getElem?_cons_zero, Option.some.injEq] at hj
      subst hj
      have : j = gs.length := by omega
      subst this
      exact hs
  · by_cases hjl : j = gs.length
    · subst hjl; exact ⟨_, hs⟩
    · rw [hc j hjl]; exact h.cel j hj
  · by_cases hjl : j < gs.length
    · rw [List.getElem?_append_left hjl] at hj
      rw [List.getElem?_append_left (by rw [← h.len]; exact hjl)] at hs'
      have hm := h.lt g' (List.mem_of_getElem? hj)
      exact (h.acc j g' s' hj hs').setFar (p := ⟨a, gs.length, none⟩) (fun e => hm.2.2 e.symm) hm.2.1 _
    · rw [List.getElem?_append_right (by omega)] at hj
      rw [List.getElem?_append_right (by rw [← h.len]; omega), ← h.len] at hs'
      have e0 : j - gs.length = 0 := by
        rcases Nat.eq_zero_or_pos (j - gs.length) with h0 | h0
        · exact h0
        · rw [List.getElem?_eq_none (by simp; omega)] at hj; cases hj
      rw [e0] at hj hs'
      simp only [List.getElem?_cons_zero, Option.some.injEq] at hj hs'
      subst hj; subst hs'
      exact hg.setFar (p := ⟨a, gs.length, none⟩) (fun e => hne e.symm) hlt _
  · rcases List.mem_append.1 hg' with h1 | h1
    · have := h.lt g' h1; simpa [World.setCell] using this
    · rw [List.mem_singleton.1 h1]; exact ⟨hB, by simpa [World.setCell] using hlt, hne⟩
  · rw [List.nodup_append]
    exact ⟨h.nd, by simp, fun x hx y hy => by rw [List.mem_singleton.1 hy]; rintro rfl; exact hnew hx⟩
theorem nodup_inj {l : List Nat} (h : l.Nodup) {i j : Nat} (hi : i < l.length) (hj : j < l.length) (e : l[i] = l[j]) : i = j := by
  have h1 := List.pairwise_iff_getElem.1 h
  rcases Nat.lt_trichotomy i j with h2 | h2 | h2
  · exact absurd e (h1 i j hi hj h2)
  · exact h2
  · exact absurd e.symm (h1 j i hj hi h2)
theorem own_mono {w : World} {B B' e size n : Nat} {v : Value} {xs : List Value} (h : w.ownsRow B e size v n xs) (hB : B' ≤ B) : w.ownsRow B' e size v n xs := by
  refine ⟨h.1, ?_⟩
  rcases h.2 with h0 | ⟨g, cap, cur, h1, h2, h3⟩
  · exact .inl h0
  · exact .inr ⟨g, cap, cur, h1, by omega, h3⟩
theorem own_empty (w : World) : (w.alloc (.cells #[] 24)).ownsRow w.heap.size 24 1 (.slice (some ⟨w.heap.size, 0, none⟩) 0 0) 0 [] :=
  ⟨rfl, .inr ⟨w.heap.size, 0, #[], rfl, Nat.le_refl _, heap_alloc_new w _, Nat.le_refl _, Nat.zero_le _, rfl, rfl⟩⟩
theorem own_only {w w' : World} {B b g n cap : Nat} {xs : List Value} (h : w.ownsRow B 24 1 (.slice (some ⟨g, 0, none⟩) n cap) n xs) (ho : Only b w w') (hne : g ≠ b) : w'.ownsRow B 24 1 (.slice (some ⟨g, 0, none⟩) n cap) n xs := by
  refine ⟨h.1, ?_⟩
  rcases h.2 with h0 | ⟨g', cap', cur, h1, h2, h3, h4⟩
  · exact .inl h0
  · have e : g = g' := by injection h1 with h1; injection h1 with h1; injection h1
    subst e
    refine .inr ⟨g, cap', cur, h1, h2, ?_, h4⟩
    have hlt : g < w.heap.size := by
      rcases Nat.lt_or_ge g w.heap.size with h5 | h5
      · exact h5
      · rw [Array.getElem?_eq_none h5] at h3; cases h3
    rw [ho.block g hlt hne]; exact h3
theorem own_below {w w' : World} {B g n cap : Nat} {xs : List Value} (h : w.ownsRow B 24 1 (.slice (some ⟨g, 0, none⟩) n cap) n xs) (hb : Below w.heap.size w w') : w'.ownsRow B 24 1 (.slice (some ⟨g, 0, none⟩) n cap) n xs := by
  refine ⟨h.1, ?_⟩
  rcases h.2 with h0 | ⟨g', cap', cur, h1, h2, h3, h4⟩
  · exact .inl h0
  · have e : g = g' := by injection h1 with h1; injection h1 with h1; injection h1
    subst e
    refine .inr ⟨g, cap', cur, h1, h2, ?_, h4⟩
    have hlt : g < w.heap.size := by
      rcases Nat.lt_or_ge g w.heap.size with h5 | h5
      · exact h5
      · rw [Array.getElem?_eq_none h5] at h3; cases h3
    rw [hb.block g hlt]; exact h3
theorem own_fs {w : World} {B g n cap : Nat} {m : List Nat} (h : w.ownsRow B 24 1 (.slice (some ⟨g, 0, none⟩) n cap) n (m.map (Value.float .f64))) (hU : ∀ x ∈ m, U x) : FS w (some ⟨g, 0, none⟩) m := by
  obtain ⟨A, c, hv, hf, _⟩ := fs_of_row h hU
  injection hv with hv
  subst hv
  exact hf
theorem own_cell {w : World} {B g n cap k x : Nat} {m : List Nat} (h : w.ownsRow B 24 1 (.slice (some ⟨g, 0, none⟩) n cap) n (m.map (Value.float .f64))) (hk : m[k]? = some x) : w.cell? ⟨g, k, none⟩ = some (.float .f64 x) := by
  have hl := h.1
  rw [List.length_map, Nat.mul_one] at hl
  have := (List.getElem?_eq_some_iff.1 hk).1
  rw [World.ownsRow.cellAt h k (by omega), List.getElem?_map, hk]; rfl
theorem own_store {w : World} {B g n cap k x : Nat} {m : List Nat} (h : w.ownsRow B 24 1 (.slice (some ⟨g, 0, none⟩) n cap) n (m.map (Value.float .f64))) : (w.setCell ⟨g, k, none⟩ (.float .f64 x)).ownsRow B 24 1 (.slice (some ⟨g, 0, none⟩) n cap) n ((m.set k x).map (Value.float .f64)) := by
  have := (World.ownsRow.stored h k (.float .f64 x)).1
  rw [List.map_set]; exact this
theorem own_run {w : World} {B g n cap k x : Nat} {m : List Nat} (h : w.ownsRow B 24 1 (.slice (some ⟨g, 0, none⟩) n cap) n (m.map (Value.float .f64))) (hk : m[k]? = some x) (v : Nat) :
    (Go.store ⟨g, k, none⟩ (.float .f64 v)).run Try.prog w = .ok () (w.setCell ⟨g, k, none⟩ (.float .f64 v)) := by
  rw [run_store Try.prog _ _ _ _ rfl, own_cell h hk, World.ownsRow.frozenAt h k]; rfl
theorem Four.row {w : World} {B a : Nat} {gs : List Nat} {ss : List AS} (h : Four w B a gs ss) {g k : Nat} (hg : g ≠ a) (hm : g ∉ gs) (v : Value) : Four (w.setCell ⟨g, k, none⟩ v) B a gs ss := by
  have e : ∀ o, (w.setCell ⟨g, k, none⟩ v).cell? ⟨a, o, none⟩ = w.cell? ⟨a, o, none⟩ := fun o => World.cell?_setCell_other _ _ _ _ (fun e => hg (by injection e))
  exact ⟨h.len, fun i g' hi => (e i).trans (h.ptr i g' hi), fun i hi => by rw [e i]; exact h.cel i hi, fun i => (World.frozen?_setCell ..).trans (h.fr i), fun i g' s' hi hs' => (h.acc i g' s' hi hs').setFar (p := ⟨g, k, none⟩) (fun e => hm (by have e : g = g' := e; rw [e]; exact List.mem_of_getElem? hi)) (h.lt g' (List.mem_of_getElem? hi)).2.1 _,
    fun g' hg' => by have := h.lt g' hg'; simpa [World.setCell] using this, h.nd, ⟨h.alt.1, by simpa [World.setCell] using h.alt.2⟩⟩
theorem Four.drew {w : World} {B a : Nat} {gs : List Nat} {ss : List AS} (h : Four w B a gs ss) : Four w.drew B a gs ss :=
  ⟨h.len, h.ptr, h.cel, h.fr, fun j g s hj hs => (h.acc j g s hj hs).drew, h.lt, h.nd, h.alt⟩
theorem getD_of {l : List AS} {j : Nat} {s : AS} (h : l[j]? = some s) : l.getD j AS.zero = s := by rw [List.getD_eq_getElem?_getD, h]; rfl
theorem sum_add (ss : List AS) (l : List Nat) (j k x : Nat) (s : AS) (h : sumS ss = accS (l.take k)) (hj : ss[j]? = some s) (hx : l[k]? = some x) : sumS (ss.set j (addS s x)) = accS (l.take (k + 1)) := by
  rw [addS_join, sumS_set ss j s _ hj, h, ← addS_join, accS_take l k x hx]
/-- one Acc is another -/
theorem Four.step {w w' : World} {B a j g : Nat} {gs : List Nat} {ss : List AS} {s : AS} (h : Four w B a gs ss) (hj : gs[j]? = some g) (ha : AccAt w' g s) (ho : Only g w w') : Four w' B a gs (ss.set j s) := by
  have hg := h.lt g (List.mem_of_getElem? hj)
  have e : ∀ o, w'.cell? ⟨a, o, none⟩ = w.cell? ⟨a, o, none⟩ := fun o => World.cell?_of_block (w := w) (ho.block a h.alt.2 (fun e => hg.2.2 e.symm))
  have f : ∀ o, w'.frozen? ⟨a, o, none⟩ = w.frozen? ⟨a, o, none⟩ := fun o => World.frozen?_of_block (w := w) (ho.block a h.alt.2 (fun e => hg.2.2 e.symm))
  refine ⟨by rw [List.length_set]; exact h.len, fun i g' hi => (e i).trans (h.ptr i g' hi), fun i hi => by rw [e i]; exact h.cel i hi, fun i => (f i).trans (h.fr i), fun i g' s' hi hs' => ?_, fun g' hg' => ?_, h.nd, ⟨h.alt.1, Nat.lt_of_lt_of_le h.alt.2 ho.size⟩⟩
  · by_cases hij : i = j
    · subst hij
      rw [hj] at hi
      injection hi with hi
      subst hi
      have hlt : i < ss.length := by rw [← h.len]; exact (List.getElem?_eq_some_iff.1 hj).1
      rw [List.getElem?_set_self hlt] at hs'
      injection hs' with hs'
      subst hs'
      exact ha
    · rw [List.getElem?_set_ne (fun e => hij e.symm)] at hs'
      have hm := h.lt g' (List.mem_of_getElem? hi)
      refine (h.acc i g' s' hi hs').only ho hm.2.1 ?_
      intro e
      subst e
      have h1 := (List.getElem?_eq_some_iff.1 hi)
      have h2 := (List.getElem?_eq_some_iff.1 hj)
      exact hij (nodup_inj h.nd h1.1 h2.1 (h1.2.trans h2.2.symm))
  · have := h.lt g' hg'; have := ho.size; omega

set_option maxRecDepth 100000 in
set_option maxHeartbeats 4000000 in
theorem walkSumsParts (A : Option Addr) (l : List Nat) (c : Nat) (A1 : Option Addr) (tl : List Int) (c1 : Nat) (A2 : Option Addr) (od : List Int) (c2 : Nat) (w : World)
    (h : FS w A l) (hlc : l.length ≤ c) (hc : c * 8 ≤ 140737488351232) (hno : A = none → c = 0)
    (h1 : CS w A1 (tl.map (Value.int .i64))) (hlc1 : tl.length ≤ c1) (hc1 : c1 * 8 ≤ 140737488351232) (f1 : ∀ z ∈ tl, (Lit.int .i64 z).wf = true)
    (h2 : CS w A2 (od.map (Value.int .i64))) (hlc2 : od.length ≤ c2) (hc2 : c2 * 8 ≤ 140737488351232) (f2 : ∀ z ∈ od, (Lit.int .i64 z).wf = true) :
    Calls Try.prog 8 #[.slice A l.length c, .slice A1 tl.length c1, .slice A2 od.length c2] w fun e w' => e = .returned (.bool true) ∧ Below w.heap.size w w' := by
  obtain ⟨i0, hi, hz0, hz1, hz2⟩ := info_parts info24
  have HI := Lib.hid (And.intro hi (And.intro hz0 (And.intro hz1 hz2)))
  have H := Lib.hid h
  have H1 := Lib.hid (And.intro h1 f1)
  have H2 := Lib.hid (And.intro h2 f2)
  have HNO := Lib.hid hno
  have HU := Lib.hid h.u
  clear hi hz0 hz1 hz2 h h1 h2 hno f1 f2
  go_enter Try.func8, Try.ntmps8
  go_wp2_with fail
  refine (c22 _).mono ?_
  rintro e w1 ⟨rfl, hb⟩
  have B1 := Lib.hid hb
  clear hb
  go_wp2_with fail
  refine (c23F A c l _ (H.out.below B1.out) (by omega)).mono ?_
  rintro e w2 ⟨⟨r0, rfl, u0, hr0⟩, hb⟩
  have B2 := Lib.hid (below_trans B1.out hb)
  have R0 := Lib.hid (And.intro u0 hr0)
  clear hb u0 hr0 B1
  go_wp2_with fail
  have Q0 : Hid (Four (w2.alloc (.cells #[.pointer none, .pointer none, .pointer none, .pointer none] 42)) w.heap.size w2.heap.size [] []) := Lib.hid (Four.start w2 w.heap.size B2.out.size 42)
  have B3 := Lib.hid (B2.out.alloc B2.out.size (.cells #[.pointer none, .pointer none, .pointer none, .pointer none] 42))
  clear B2
  generalize w2.heap.size = a at *
  go_loopw [10] (fun i wx => ∃ (k : Nat) (gs : List Nat), k ≤ 4 ∧ i = .int .i64 k ∧ Hid (gs.length = k ∧ Four wx w.heap.size a gs (List.replicate k AS.zero)) ∧ Hid (Below w.heap.size w wx)) (fun i _ => 4 - (intOf i).toNat)
  case atStart => exact ⟨0, [], by omega, rfl, Lib.hid ⟨rfl, Q0.out⟩, B3⟩
  case round =>
    obtain ⟨k, gs, hk, rfl, hQ, hB⟩ := hrel
    clear Q0 B3
    by_cases hlt : k < 4
    · have hki : (k : Int) < 4 := by omega
      have HLT := Lib.hid hlt
      clear hlt
      go_wp2_with fail
      refine (c35 _).mono ?_
      rintro e w4 ⟨rfl, ha, hb, hz⟩
      have Q4 := hQ.out.2.below hb
      have hgl := hQ.out.1
      have P5 := Q4.push ha hz hB.out.size (by have := hQ.out.2.alt.2; omega) (fun hm => by have := hQ.out.2.lt _ hm; omega) (by have := HLT.out; omega)
      rw [hgl] at P5
      obtain ⟨v0, kd⟩ := Q4.cel k HLT.out
      have kf := Q4.fr k
      have k1 := P5.ptr k wr.heap.size (by rw [List.getElem?_append_right (by omega), hgl, Nat.sub_self]; rfl)
      have P6 : Hid ((gs ++ [wr.heap.size]).length = k + 1 ∧ Four (w4.setCell ⟨a, k, none⟩ (.pointer (some ⟨wr.heap.size, 0, none⟩))) w.heap.size a (gs ++ [wr.heap.size]) (List.replicate (k + 1) AS.zero)) := Lib.hid ⟨by simp [hgl], by rw [List.replicate_succ']; exact P5⟩
      have B6 : Hid (Below w.heap.size w (w4.setCell ⟨a, k, none⟩ (.pointer (some ⟨wr.heap.size, 0, none⟩)))) := Lib.hid ((below_trans hB.out hb).setCell hQ.out.2.alt.1 _)
      clear ha hb hz Q4 hgl P5
      go_wp2
      go_roundw
      case rel => exact ⟨k + 1, _, by have := HLT.out; omega, by go_num, P6, B6⟩
      case measure => have := HLT.out; simp [intOf]; omega
    · have hki : ¬ (k : Int) < 4 := by omega
      have hk4 : k = 4 := by omega
      subst hk4
      clear hlt hk
      go_upto_region 10 with fail
      go_cut [11] (fun v wx => ∃ g cap, v = .slice (some ⟨g, 0, none⟩) l.length cap ∧ Hid (wx.ownsRow w.heap.size 24 1 v l.length (l.map (Value.float .f64)) ∧ g ≠ a ∧ g ∉ gs) ∧ Hid (Four wx w.heap.size a gs [AS.zero, AS.zero, AS.zero, AS.zero]) ∧ Hid (Below w.heap.size w wx))
      case first =>
        have HQ4 := Lib.hid hQ.out.2
        have HB4 := Lib.hid hB.out
        have O0 := Lib.hid (own_empty wr)
        have HL := Lib.hid (show l.length * 8 ≤ 140737488351232 by omega)
        have done : ∀ v w2, w2.ownsRow wr.heap.size 24 1 v l.length (l.map (Value.float .f64)) → (wr.alloc (.cells #[] 24)).grownBy w2 (some wr.heap.size) → ¬ v = .slice none 0 0 →
            ∃ g cap, v = .slice (some ⟨g, 0, none⟩) l.length cap ∧ Hid (w2.ownsRow w.heap.size 24 1 v l.length (l.map (Value.float .f64)) ∧ g ≠ a ∧ g ∉ gs) ∧ Hid (Four w2 w.heap.size a gs [AS.zero, AS.zero, AS.zero, AS.zero]) ∧ Hid (Below w.heap.size w w2) := by
          intro v w2 ho hg hv
          have b1 : Below wr.heap.size wr w2 := ((Below.refl _ _).alloc (Nat.le_refl _) (.cells #[] 24)).grown hg (by simp) (fun k hk => by injection hk with hk; omega)
          rcases ho.2 with ⟨h1, _⟩ | ⟨g, cap, cur, h1, h2, _⟩
          · exact absurd h1 hv
          · exact ⟨g, cap, h1, Lib.hid ⟨own_mono ho HB4.out.size, by have := HQ4.out.alt.2; omega, fun hm => by have := HQ4.out.lt g hm; omega⟩, Lib.hid (HQ4.out.below b1), Lib.hid (below_trans HB4.out b1)⟩
        have DONE := Lib.hid done
        clear done hQ hB
        rcases A with _ | ad
        · obtain rfl : l = [] := by
            rcases H.out with h | ⟨b, o, h, _⟩
            · exact h
            · cases h
          obtain rfl : c = 0 := HNO.out rfl
          go_wp2_with (at_builtin; refine wpList_append_own_none rfl _ _ 22 rfl wr.heap.size 24 i0 1 Try.underlying22 HI.out.1 _ 0 [] rfl O0.out rfl ?_)
          go_meet
          exact DONE.out _ _ O0.out (World.grownBy.refl _ _) (by intro h; cases h)
        · have news : Hid (∀ j u, (l.map (Value.float .f64))[j]? = some u → (wr.alloc (.cells #[] 24)).cell? (ad.add j) = some u) := Lib.hid (by
            rcases H.out with h | ⟨b, o, h, hf⟩
            · subst h; intro j u hj; simp at hj
            · injection h with h
              subst h
              intro j u hj
              rw [List.getElem?_map, Option.map_eq_some_iff] at hj
              obtain ⟨x, hx, rfl⟩ := hj
              have hadd : (⟨b, o, none⟩ : Addr).add j = ⟨b, o + j, none⟩ := by
                unfold Addr.add; split
                · rename_i h; rw [h]; rfl
                · rfl
              rw [hadd]
              exact (hf.below (HB4.out.alloc HB4.out.size (.cells #[] 24))).cell j x hx)
          go_wp2_with (at_builtin; refine wpList_append_own _ rfl _ _ 22 rfl wr.heap.size 24 i0 (.float .f64 0) 1 8 Try.underlying22 HI.out.1 HI.out.2.1 HI.out.2.2.1 HI.out.2.2.2 rfl (by decide) _ 0 [] rfl O0.out ad l.length c (l.map (Value.float .f64)) rfl (by simp) news.out ?c2 ?c3 ?c4 ?c5 ?_)
          case c2 => intro u hu; rfl
          case c3 => have := HL.out; unfold maxLen; omega
          case c4 => have := HL.out; omega
          intro v2 w2 hown2 hgrow2 hnil
          have D := Lib.hid (DONE.out v2 w2 hown2 hgrow2 hnil)
          clear hown2 hgrow2 hnil
          go_wp2
          go_meet
          exact D.out
      case rest =>
        obtain ⟨g, cap, rfl, hO, hQ2, hB2⟩ := hcut
        have HGS := Lib.hid hQ.out.1
        clear hQ hB
        go_wp2_with fail
        go_loopw [12] (fun i wx => ∃ (k : Nat) (ss : List AS) (m : List Nat), k ≤ l.length ∧ i = .int .i64 k ∧ Hid (m.Perm l ∧ wx.ownsRow w.heap.size 24 1 (.slice (some ⟨g, 0, none⟩) l.length cap) l.length (m.map (Value.float .f64))) ∧ Hid (Four wx w.heap.size a gs ss ∧ ss.length = 4 ∧ sumS ss = accS (l.take k)) ∧ Hid (Below w.heap.size w wx)) (fun i _ => l.length - (intOf i).toNat)
        case atStart => exact ⟨0, _, l, by omega, rfl, Lib.hid ⟨List.Perm.refl _, hO.out.1⟩, Lib.hid ⟨hQ2.out, rfl, by rw [List.take_zero]; rfl⟩, hB2⟩
        case round =>
          obtain ⟨k, ss, m, hk, rfl, hM, hF, hB⟩ := hrel
          have HNE := Lib.hid (And.intro hO.out.2.1 hO.out.2.2)
          clear hO hQ2 hB2
          by_cases hlt : k < l.length
          · obtain ⟨x, hx⟩ : ∃ x, l[k]? = some x := ⟨l[k], List.getElem?_eq_getElem hlt⟩
            obtain ⟨b, o, rfl, hfl⟩ : ∃ b o, A = some ⟨b, o, none⟩ ∧ FL w b o l := by
              rcases H.out with h | h
              · rw [h] at hlt; exact absurd hlt (by simp)
              · exact h
            have HX := Lib.hid (And.intro hx hfl)
            have HLT := Lib.hid hlt
            have hki : (k : Int) < (l.length : Int) := by omega
            clear hx hfl hlt
            have hcut1 : (k < tl.length) ∨ ¬ (k < tl.length) := by omega
            go_upto_if 48 with fail
            go_cut [13] (fun v wx => ∃ j : Nat, j < 4 ∧ v = .int .i64 (j : Int) ∧ wx = wr)
            case first =>
              rcases hcut1 with ht | ht
              · have hti : (k : Int) < (tl.length : Int) := by omega
                obtain ⟨z, hz⟩ : ∃ z, tl[k]? = some z := ⟨tl[k], List.getElem?_eq_getElem ht⟩
                obtain ⟨b1, o1, rfl, kc1⟩ := (H1.out.1.below hB.out).at_ (show (tl.map (Value.int .i64))[k]? = some (.int .i64 z) by rw [List.getElem?_map, hz]; rfl)
                have HZ := Lib.hid (wf_i64 (H1.out.2 z (List.mem_of_getElem? hz)))
                clear hz ht
                go_wp2_with fail
                refine (c36four z _ HZ.out.1 HZ.out.2).mono ?_
                rintro e w' ⟨⟨q, hq, rfl⟩, rfl⟩
                have HQQ := Lib.hid hq
                clear hq
                go_wp2
                go_meet
                exact ⟨q, HQQ.out, rfl, rfl⟩
              · have hti : ¬ (k : Int) < (tl.length : Int) := by omega
                clear ht
                go_wp2
                go_meet
                exact ⟨0, by omega, rfl, rfl⟩
            case rest =>
              obtain ⟨j, hj, rfl, rfl⟩ := hcut
              clear hcut1
              obtain ⟨gj, hgj⟩ : ∃ gj, gs[j]? = some gj := ⟨gs[j]'(by rw [HGS.out]; omega), List.getElem?_eq_getElem _⟩
              obtain ⟨sj, hsj⟩ : ∃ sj, ss[j]? = some sj := ⟨ss[j]'(by rw [hF.out.2.1]; omega), List.getElem?_eq_getElem _⟩
              have HJ := Lib.hid (And.intro hgj hsj)
              have kp := hF.out.1.ptr j gj hgj
              have kx := (HX.out.2.below hB.out).cell k x HX.out.1
              have hj1 : (0 : Int) ≤ (j : Int) := by omega
              have hj2 : (j : Int) < 4 := by omega
              clear hgj hsj hj
              go_wp2_with fail
              go_still_tail 7, (by kernel_rfl)
              go_wp2_with fail
              refine (c37 gj sj x _ (HU.out x (List.mem_of_getElem? HX.out.1)) (hF.out.1.acc j gj sj HJ.out.1 HJ.out.2).drew (hF.out.1.lt gj (List.mem_of_getElem? HJ.out.1)).2.1).mono ?_
              rintro e w5 ⟨rfl, ha, ho⟩
              have F5 : Hid (Four w5 w.heap.size a gs (ss.set j (addS sj x)) ∧ (ss.set j (addS sj x)).length = 4 ∧ sumS (ss.set j (addS sj x)) = accS (l.take (k + 1))) :=
                Lib.hid ⟨(hF.out.1.drew).step HJ.out.1 ha ho, by rw [List.length_set]; exact hF.out.2.1, sum_add ss l j k x sj hF.out.2.2 HJ.out.2 HX.out.1⟩
              have M5 : Hid (m.Perm l ∧ w5.ownsRow w.heap.size 24 1 (.slice (some ⟨g, 0, none⟩) l.length cap) l.length (m.map (Value.float .f64))) :=
                Lib.hid ⟨hM.out.1, own_only (w := wc.drew) hM.out.2 ho (fun e => HNE.out.2 (by rw [e]; exact List.mem_of_getElem? HJ.out.1))⟩
              have hlj := hF.out.1.lt gj (List.mem_of_getElem? HJ.out.1)
              have B5 : Hid (Below w.heap.size w w5) := Lib.hid (ho.below hlj.1 hB.out.size hB.out.drew)
              clear ha ho hM hF hB kp kx hlj
              generalize ss.set j (addS sj x) = ss5 at *
              have hcut2 : (k < od.length) ∨ ¬ (k < od.length) := by omega
              have hpos : 0 < l.length := by have := HLT.out; omega
              have HP := Lib.hid hpos
              clear hpos
              rcases hcut2 with ht | ht
              · have hti : (k : Int) < (od.length : Int) := by omega
                obtain ⟨z, hz⟩ : ∃ z, od[k]? = some z := ⟨od[k], List.getElem?_eq_getElem ht⟩
                obtain ⟨b1, o1, rfl, kc1⟩ := (H2.out.1.below B5.out).at_ (show (od.map (Value.int .i64))[k]? = some (.int .i64 z) by rw [List.getElem?_map, hz]; rfl)
                have HZ := Lib.hid (wf_i64 (H2.out.2 z (List.mem_of_getElem? hz)))
                clear hz ht
                go_wp2_with fail
                refine (c36 z l.length _ HZ.out.1 HZ.out.2 HP.out (by omega)).mono ?_
                rintro e w' ⟨⟨q, hq, rfl⟩, rfl⟩
                have hml : m.length = l.length := M5.out.1.length_eq
                obtain ⟨y, hy⟩ : ∃ y, m[k]? = some y := ⟨m[k]'(by have := HLT.out; omega), List.getElem?_eq_getElem _⟩
                obtain ⟨v, hv⟩ : ∃ v, m[q]? = some v := ⟨m[q]'(by omega), List.getElem?_eq_getElem _⟩
                have c1 := own_cell M5.out.2 hy
                have c2 := own_cell M5.out.2 hv
                have st1 := own_run M5.out.2 hy v
                have r1 := own_store (k := k) (x := v) M5.out.2
                have r2 := own_store (k := q) (x := y) r1
                have hvq : ∃ u, (m.set k v)[q]? = some u := ⟨(m.set k v)[q]'(by rw [List.length_set]; omega), List.getElem?_eq_getElem _⟩
                obtain ⟨u, hu⟩ := hvq
                have st2 := own_run r1 hu y
                have R2 : Hid (((m.set k v).set q y).Perm l ∧ ((w5.setCell ⟨g, k, none⟩ (.float .f64 v)).setCell ⟨g, q, none⟩ (.float .f64 y)).ownsRow w.heap.size 24 1 (.slice (some ⟨g, 0, none⟩) l.length cap) l.length (((m.set k v).set q y).map (Value.float .f64))) :=
                  Lib.hid ⟨(swap_perm m k q y v hy hv).trans M5.out.1, r2⟩
                have FF : Hid (Four ((w5.setCell ⟨g, k, none⟩ (.float .f64 v)).setCell ⟨g, q, none⟩ (.float .f64 y)) w.heap.size a gs ss5) := Lib.hid ((F5.out.1.row HNE.out.1 HNE.out.2 _).row HNE.out.1 HNE.out.2 _)
                have hgB : w.heap.size ≤ g := by
                  rcases M5.out.2.2 with ⟨h0, _⟩ | ⟨g', cap', cur, h1, h2, _⟩
                  · cases h0
                  · injection h1 with h1; injection h1 with h1; injection h1 with h1; omega
                have BB : Hid (Below w.heap.size w ((w5.setCell ⟨g, k, none⟩ (.float .f64 v)).setCell ⟨g, q, none⟩ (.float .f64 y))) := Lib.hid ((B5.out.setCell (p := ⟨g, k, none⟩) hgB _).setCell (p := ⟨g, q, none⟩) hgB _)
                have hqi : (q : Int) < (l.length : Int) := by omega
                clear hy hv r1 r2 hu hml hq hgB
                go_wp2
                go_roundw
                case rel => exact ⟨k + 1, ss5, _, by have := HLT.out; omega, by go_num, R2, Lib.hid ⟨FF.out, F5.out.2⟩, BB⟩
                case measure => have := HLT.out; simp [intOf]; omega
              · have hti : ¬ (k : Int) < (od.length : Int) := by omega
                clear ht
                go_wp2
                go_roundw
                case rel => exact ⟨k + 1, ss5, m, by have := HLT.out; omega, by go_num, M5, F5, B5⟩
                case measure => have := HLT.out; simp [intOf]; omega
          · have hki : ¬ (k : Int) < (l.length : Int) := by omega
            have hkl : k = l.length := by omega
            have hF2 : Hid (Four wr w.heap.size a gs ss ∧ ss.length = 4 ∧ sumS ss = accS l) := Lib.hid (by have := hF.out; rw [hkl, List.take_length] at this; exact this)
            have HM := Lib.hid hM.out
            have HBB := Lib.hid hB.out
            have hcut1 : (0 < od.length) ∨ ¬ (0 < od.length) := by omega
            clear hF hM hB hlt hkl hk
            go_upto_if 90 with fail
            go_cut [16] (fun v wx => ∃ j : Nat, j < 4 ∧ v = .int .i64 (j : Int) ∧ wx = wr)
            case first =>
              rcases hcut1 with ht | ht
              · have hti : (0 : Int) < (od.length : Int) := by omega
                obtain ⟨z, hz⟩ : ∃ z, od[0]? = some z := ⟨od[0], List.getElem?_eq_getElem ht⟩
                obtain ⟨b1, o1, rfl, kc1⟩ := (H2.out.1.below HBB.out).at_ (show (od.map (Value.int .i64))[0]? = some (.int .i64 z) by rw [List.getElem?_map, hz]; rfl)
                rw [Nat.add_zero] at kc1
                have HZ := Lib.hid (wf_i64 (H2.out.2 z (List.mem_of_getElem? hz)))
                have hlen : decide (0 < od.length) = true := decide_eq_true ht
                clear hz
                go_wp2_with fail
                refine (c36four z _ HZ.out.1 HZ.out.2).mono ?_
                rintro e w' ⟨⟨q, hq, rfl⟩, rfl⟩
                have HQQ := Lib.hid hq
                clear hq
                go_wp2
                go_meet
                exact ⟨q, HQQ.out, rfl, rfl⟩
              · have hti : ¬ (0 : Int) < (od.length : Int) := by omega
                have hlen : decide (0 < od.length) = false := decide_eq_false ht
                go_wp2
                go_meet
                exact ⟨0, by omega, rfl, rfl⟩
            case rest =>
              obtain ⟨last, hlast, rfl, rfl⟩ := hcut
              have HLA := Lib.hid hlast
              have hla1 : (0 : Int) ≤ (last : Int) := by omega
              have hla2 : (last : Int) < 4 := by omega
              clear hcut1 hlast
              go_wp2_with fail
              go_loopw [17] (fun i wx => ∃ (k : Nat) (ss : List AS), k ≤ 4 ∧ i = .int .i64 k ∧ Hid (Four wx w.heap.size a gs ss ∧ ss.length = 4 ∧ joinS (ss.getD last AS.zero) (restS ss last k) = accS l) ∧ Hid (wx.ownsRow w.heap.size 24 1 (.slice (some ⟨g, 0, none⟩) l.length cap) l.length (m.map (Value.float .f64))) ∧ Hid (Below w.heap.size w wx)) (fun i _ => 4 - (intOf i).toNat)
              case atStart => exact ⟨0, ss, by omega, rfl, Lib.hid ⟨hF2.out.1, hF2.out.2.1, by rw [restS_start ss last hF2.out.2.1 HLA.out]; exact hF2.out.2.2⟩, Lib.hid HM.out.2, HBB⟩
              case round =>
                obtain ⟨k, ss, hk, rfl, hF, hM, hB⟩ := hrel
                have HPM := Lib.hid HM.out.1
                clear HM HBB hF2
                by_cases hlt : k < 4
                · have hki : (k : Int) < 4 := by omega
                  have hk0 : (0 : Int) ≤ (k : Int) := by omega
                  have HLT := Lib.hid hlt
                  clear hlt
                  by_cases hkl : k = last
                  · have hne : ((k : Int) != (last : Int)) = false := by subst hkl; simp
                    have F2 : Hid (Four wr w.heap.size a gs ss ∧ ss.length = 4 ∧ joinS (ss.getD last AS.zero) (restS ss last (k + 1)) = accS l) := Lib.hid ⟨hF.out.1, hF.out.2.1, by rw [← hF.out.2.2, hkl, restS_same ss last HLA.out]⟩
                    clear hkl
                    go_wp2
                    go_roundw
                    case rel => exact ⟨k + 1, ss, by have := HLT.out; omega, by go_num, F2, hM, hB⟩
                    case measure => have := HLT.out; simp [intOf]; omega
                  · have hne : ((k : Int) != (last : Int)) = true := by rw [bne_iff_ne]; omega
                    have HKL := Lib.hid hkl
                    clear hkl
                    obtain ⟨gk, hgk⟩ : ∃ gk, gs[k]? = some gk := ⟨gs[k]'(by rw [HGS.out]; exact HLT.out), List.getElem?_eq_getElem _⟩
                    obtain ⟨gl, hgl⟩ : ∃ gl, gs[last]? = some gl := ⟨gs[last]'(by rw [HGS.out]; exact HLA.out), List.getElem?_eq_getElem _⟩
                    obtain ⟨sk, hsk⟩ : ∃ sk, ss[k]? = some sk := ⟨ss[k]'(by rw [hF.out.2.1]; exact HLT.out), List.getElem?_eq_getElem _⟩
                    obtain ⟨sl, hsl⟩ : ∃ sl, ss[last]? = some sl := ⟨ss[last]'(by rw [hF.out.2.1]; exact HLA.out), List.getElem?_eq_getElem _⟩
                    have HJ := Lib.hid (And.intro hgk (And.intro hgl (And.intro hsk hsl)))
                    have kp := hF.out.1.ptr k gk hgk
                    have kl := hF.out.1.ptr last gl hgl
                    have hgne : gk ≠ gl := by
                      intro e
                      subst e
                      have h1 := List.getElem?_eq_some_iff.1 hgk
                      have h2 := List.getElem?_eq_some_iff.1 hgl
                      exact HKL.out (nodup_inj hF.out.1.nd h1.1 h2.1 (h1.2.trans h2.2.symm))
                    have HGN := Lib.hid hgne
                    clear hgk hgl hsk hsl hgne
                    go_wp2_with fail
                    go_still_tail 6, (by kernel_rfl)
                    go_wp2_with fail
                    refine (c38 gl gk sl sk _ (hF.out.1.acc last gl sl HJ.out.2.1 HJ.out.2.2.2).drew (hF.out.1.acc k gk sk HJ.out.1 HJ.out.2.2.1).drew (hF.out.1.lt gl (List.mem_of_getElem? HJ.out.2.1)).2.1 (hF.out.1.lt gk (List.mem_of_getElem? HJ.out.1)).2.1 HGN.out).mono ?_
                    rintro e w5 ⟨rfl, ha, ho⟩
                    have F5 : Hid (Four w5 w.heap.size a gs (ss.set last (joinS sl sk)) ∧ (ss.set last (joinS sl sk)).length = 4 ∧ joinS ((ss.set last (joinS sl sk)).getD last AS.zero) (restS (ss.set last (joinS sl sk)) last (k + 1)) = accS l) :=
                      Lib.hid ⟨(hF.out.1.drew).step HJ.out.2.1 ha ho, by rw [List.length_set]; exact hF.out.2.1, by
                        have := restS_step ss last k hF.out.2.1 HLA.out HLT.out HKL.out
                        rw [getD_of HJ.out.2.2.2, getD_of HJ.out.2.2.1] at this
                        rw [this, ← hF.out.2.2, getD_of HJ.out.2.2.2]⟩
                    have M5 : Hid (w5.ownsRow w.heap.size 24 1 (.slice (some ⟨g, 0, none⟩) l.length cap) l.length (m.map (Value.float .f64))) :=
                      Lib.hid (own_only (w := wr.drew) hM.out ho (fun e => HNE.out.2 (by rw [e]; exact List.mem_of_getElem? HJ.out.2.1)))
                    have hlj := hF.out.1.lt gl (List.mem_of_getElem? HJ.out.2.1)
                    have B5 : Hid (Below w.heap.size w w5) := Lib.hid (ho.below hlj.1 hB.out.size hB.out.drew)
                    clear ha ho hM hF hB kp kl hlj
                    go_wp2
                    go_roundw
                    case rel => exact ⟨k + 1, _, by have := HLT.out; omega, by go_num, F5, M5, B5⟩
                    case measure => have := HLT.out; simp [intOf]; omega
                · have hki : ¬ (k : Int) < 4 := by omega
                  have hk4 : k = 4 := by omega
                  have hS : Hid (ss.getD last AS.zero = accS l) := Lib.hid (by have := hF.out.2.2; rw [hk4, restS_end, joinS_zero] at this; exact this)
                  obtain ⟨gl, hgl⟩ : ∃ gl, gs[last]? = some gl := ⟨gs[last]'(by rw [HGS.out]; exact HLA.out), List.getElem?_eq_getElem _⟩
                  obtain ⟨sl, hsl⟩ : ∃ sl, ss[last]? = some sl := ⟨ss[last]'(by rw [hF.out.2.1]; exact HLA.out), List.getElem?_eq_getElem _⟩
                  have kl := hF.out.1.ptr last gl hgl
                  have AC : Hid (AccAt wr gl (accS l) ∧ gl < wr.heap.size) := Lib.hid ⟨by rw [← hS.out, getD_of hsl]; exact hF.out.1.acc last gl sl hgl hsl, (hF.out.1.lt gl (List.mem_of_getElem? hgl)).2.1⟩
                  clear hgl hsl hS hlt hk4 hk hF
                  have hsm := acc_small l (by omega)
                  have HSM := Lib.hid hsm
                  clear hsm
                  go_wp2_with fail
                  refine (c39 gl _ _ AC.out.1 AC.out.2 HSM.out.1 HSM.out.2).mono ?_
                  rintro e w6 ⟨⟨r1, rfl, u1, h1⟩, hb⟩
                  have O6 := Lib.hid (own_below hM.out hb)
                  have B6 := Lib.hid (below_trans hB.out hb)
                  have R1 := Lib.hid (And.intro u1 h1)
                  clear hb u1 h1 hM hB AC kl
                  go_wp2_with fail
                  refine (c23N (some ⟨g, 0, none⟩) cap m l.length _ HPM.out.length_eq (own_fs O6.out (fun x hx => HU.out x (HPM.out.subset hx))) (by omega)).mono ?_
                  rintro e w7 ⟨⟨r2, rfl, u1, h1⟩, hb⟩
                  have B7 := Lib.hid (below_trans B6.out hb)
                  have R2 := Lib.hid (And.intro u1 h1)
                  clear hb u1 h1 O6 B6
                  go_wp2_with fail
                  refine (c24t r1 r0 _ R1.out.1 R0.out.1 (by rw [R1.out.2, R0.out.2])).mono ?_
                  rintro e w' ⟨rfl, rfl⟩
                  go_wp2_with fail
                  refine (c24t r2 r0 _ R2.out.1 R0.out.1 (by rw [R2.out.2, R0.out.2, accS_perm HPM.out])).mono ?_
                  rintro e w' ⟨rfl, rfl⟩
                  go_wp2
                  go_ret
                  exact ⟨rfl, B7.out⟩
end Go.Proofs.Ytelalledjbeenaa
