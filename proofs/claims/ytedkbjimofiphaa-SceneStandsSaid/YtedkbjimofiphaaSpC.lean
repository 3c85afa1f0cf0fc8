/- The law SceneParts: parts and sums while they are made; contracts over rows that may be nil. -/
import Derived.Test.YtedkbjimofiphaaSpB
import Derived.Test.YtedkbjimofiphaaMgItB
namespace Go.Proofs.Ytedkbjimofiphaa
open Go.RowKit Fl
/-- a row of items: none, or in a block -/
def IT (w : World) (p : Option Addr) (n : Nat) (T : Nat → ITM) : Prop := n = 0 ∨ ∃ g, p = some ⟨g, 0, none⟩ ∧ g < w.heap.size ∧ ∀ k, k < n → w.rangeAt g (k * 23) (T k).cells
theorem IT.below {w w' : World} {p : Option Addr} {n : Nat} {T : Nat → ITM} (h : IT w p n T) (hb : Below w.heap.size w w') : IT w' p n T := by
  rcases h with h | ⟨g, hp, hg, hr⟩
  · exact .inl h
  · exact .inr ⟨g, hp, Nat.lt_of_lt_of_le hg hb.size, fun k hk => range_below (hr k hk) hb hg⟩
theorem IS.it {w0 w : World} {T : Nat → ITM} {n c : Nat} {p : Option Addr} (hT : ∀ k, k < n → (T k).OK) (h : IS w0 w (.slice p n c) T n) : IT w p n T := by
  rcases Nat.eq_zero_or_pos n with h0 | h0
  · exact .inl h0
  · obtain ⟨g, rfl, -, hg⟩ := owned_some h.o h0
    exact .inr ⟨g, rfl, hg, fun k hk => IS.rec_ hT h hk⟩
theorem total_any (w : World) (p : Option Addr) (n c : Nat) (T : Nat → ITM) (hT : ∀ k, k < n → (T k).OK) (hn : n ≤ 1048576) (h : IT w p n T) :
    Calls Try.prog 16 #[.slice p n c] w fun e w' => (∃ a b q0 q1 q2 q3, e = .returned (totV n a b q0 q1 q2 q3) ∧ TotR T n a b q0 q1 q2 q3) ∧ Below w.heap.size w w' := by
  rcases Nat.eq_zero_or_pos n with h0 | h0
  · subst h0; exact total16z w p c T
  · rcases h with h | ⟨g, rfl, hg, hr⟩
    · omega
    · exact total16 w g n c T hT hn h0 hr hg
set_option maxRecDepth 100000 in
set_option maxHeartbeats 1000000 in
theorem hit_none (w : World) (A : Option Addr) (c x y : Nat) (T : Nat → ITM) : Calls Try.prog 18 #[.slice A 0 c, .float .f64 x, .float .f64 y] w fun e w' => ∃ v, e = .returned v ∧ HS w w' v [] T := by
  have S0 := Lib.hid (show HS w (w.alloc (.cells #[] 30)) (.slice (some ⟨w.heap.size, 0, none⟩) 0 0) [] T from ⟨World.ownsRow_made w #[] 0 (Nat.le_refl _) (by unfold maxLen; omega) rfl, (Below.refl _ _).alloc (Nat.le_refl _) _⟩)
  go_enter Try.func18, Try.ntmps18
  go_wp2_with fail
  go_loopw [7, 8] (fun vv kk wx => vv = .slice (some ⟨w.heap.size, 0, none⟩) 0 0 ∧ kk = .int .i64 (-1) ∧ wx = w.alloc (.cells #[] 30)) (fun _ _ _ => 0)
  case atStart => exact ⟨rfl, by go_num, rfl⟩
  case round =>
    obtain ⟨rfl, rfl, rfl⟩ := hrel
    go_wp2
    go_ret
    exact ⟨_, rfl, S0.out⟩
theorem hit_any (w : World) (p : Option Addr) (n c x y : Nat) (T : Nat → ITM) {X Y : Int} (hT : ∀ k, k < n → (T k).OK) (hn : n ≤ 1048576) (h : IT w p n T) (hx : RV x X) (hy : RV y Y) :
    Calls Try.prog 18 #[.slice p n c, .float .f64 x, .float .f64 y] w fun e w' => ∃ v, e = .returned v ∧ HS w w' v (hitL (fun k => inP (T k) X Y) n) T := by
  rcases Nat.eq_zero_or_pos n with h0 | h0
  · subst h0; exact hit_none w p c x y T
  · rcases h with h | ⟨g, rfl, hg, hr⟩
    · omega
    · exact hit18 w g n c T x y hT hn hr hg hx hy
/-- a handle by its place -/
theorem HS.at_ {w0 w : World} {v : Value} {L : List Nat} {T : Nat → ITM} (h : HS w0 w v L T) {p : Option Addr} {c : Nat} (hv : v = .slice p L.length c) {i : Nat} (hi : i < L.length) : ∃ g, p = some ⟨g, 0, none⟩ ∧ g < w.heap.size ∧ ∀ j, j < L.length → w.rangeAt g (j * 2) (T (L.getD j 0)).nd := by
  subst hv
  obtain ⟨g, rfl, -, hg⟩ := owned_some h.o (by omega)
  refine ⟨g, rfl, hg, fun j hj => ?_⟩
  have ho := h.o
  rw [flat_getD] at ho
  exact owned_rec (f := fun k => (T (L.getD k 0)).nd) (fun k hk => rfl) ho hj
theorem hitL_len (p : Nat → Bool) (n : Nat) : (hitL p n).length ≤ n := by rw [← hitM_all]; exact hitM_len _ _ _
def sx (xs : Nat → List Nat) : Nat → Nat
  | 0 => 0
  | k + 1 => sx xs k + (xs k).length
theorem RV_quoz (w : World) : (binOp .quo 31 (.float .f64 4607182418800017408) (.float .f64 0)).run Try.prog w = .ok (.float .f64 9218868437227405312) w := rfl
/-- the sums and the parts while they are made -/
structure PS3 (W0 w : World) (a3 a4 gp base n : Nat) (T : Nat → ITM) (i1 i2 i3 : Nat) (l1 l2 : List Nat) (vs : Nat → Value) (xs : Nat → List Nat) : Prop where
  kp : Keep base (fun k => k = a3 ∨ k = a4 ∨ k = gp) W0 w
  hb : base ≤ w.heap.size
  c3 : AccAt w a3 (accS l1)
  c4 : AccAt w a4 (accS l2)
  ab : a3 < base ∧ a4 < base ∧ gp < base ∧ a3 ≠ a4 ∧ a3 ≠ gp ∧ a4 ≠ gp
  u1 : ∀ x ∈ l1, U x
  u2 : ∀ x ∈ l2, U x
  p1 : l1.map pl = arL T i1
  p2 : l2.map pl = cvL T i2
  cs : w.rangeAt gp 0 [vs 0, vs 1, vs 2]
  th : w.there gp 0 3
  ow : ∀ k, k < 3 → w.ownsRow base 60 23 (vs k) (xs k).length ((xs k).flatMap fun j => (T j).cells)
  ap : ∀ j k b, j < 3 → k < 3 → j ≠ k → (vs j).ownBlock = some b → (vs k).ownBlock ≠ some b
  sm : (xs 0).length + (xs 1).length + (xs 2).length = i3
  lt : ∀ k, k < 3 → ∀ j ∈ xs k, j < n
section
variable {W0 w w' : World} {a3 a4 gp base n i1 i2 i3 : Nat} {T : Nat → ITM} {l1 l2 : List Nat} {vs : Nat → Value} {xs : Nat → List Nat}
theorem PS3.below (h : PS3 W0 w a3 a4 gp base n T i1 i2 i3 l1 l2 vs xs) (hb : Below w.heap.size w w') : PS3 W0 w' a3 a4 gp base n T i1 i2 i3 l1 l2 vs xs := by
  have e := h.hb
  obtain ⟨e1, e2, e3, -⟩ := h.ab
  exact ⟨h.kp.trans ((Keep.of_below (ex := fun k => k = a3 ∨ k = a4 ∨ k = gp) hb).mono h.hb (fun _ _ h => h)), Nat.le_trans h.hb hb.size, h.c3.below hb (by omega), h.c4.below hb (by omega), h.ab, h.u1, h.u2, h.p1, h.p2,
    range_below h.cs hb (by omega), there_below h.th hb (by omega), fun k hk => owned_at (h.ow k hk) fun b _ hl => hb.block b hl, h.ap, h.sm, h.lt⟩
theorem owned_only {b base2 size m : Nat} {e : TypeId} {v : Value} {ys : List Value} (ho : w.ownsRow base2 e size v m ys) (h : Only b w w') (hne : ∀ g, v.ownBlock = some g → g ≠ b) : w'.ownsRow base2 e size v m ys :=
  owned_at ho fun g hg hl => h.block g hl (hne g hg)
theorem PS3.add3 {r : Nat} (h : PS3 W0 w a3 a4 gp base n T i1 i2 i3 l1 l2 vs xs) (A : AccAt w' a3 (addS (accS l1) r)) (O : Only a3 w w') (hr : RV r (areaP (T i1))) : PS3 W0 w' a3 a4 gp base n T (i1 + 1) i2 i3 (l1 ++ [r]) l2 vs xs := by
  have e := h.hb
  obtain ⟨e1, e2, e3, n1, n2, n3⟩ := h.ab
  refine ⟨h.kp.trans (Keep.of_only O h.hb fun _ => .inl rfl), Nat.le_trans h.hb O.size, by rw [accS_snoc]; exact A, h.c4.only O (by omega) (by omega), h.ab, fun x hx => ?_, h.u2, ?_, h.p2, range_only h.cs O (by omega) (by omega), there_only h.th O (by omega) (by omega), fun k hk => owned_only (h.ow k hk) O fun g hg => by have := ((h.ow k hk).lt g hg).1; omega, h.ap, h.sm, h.lt⟩
  · rcases List.mem_append.1 hx with hx | hx
    · exact h.u1 x hx
    · rw [List.mem_singleton.1 hx]; exact hr.1
  · unfold arL; rw [List.map_append, h.p1, List.range_succ, List.map_append]; simp [arL, hr.2]
theorem PS3.add4 {r : Nat} (h : PS3 W0 w a3 a4 gp base n T i1 i2 i3 l1 l2 vs xs) (A : AccAt w' a4 (addS (accS l2) r)) (O : Only a4 w w') (hr : RV r (opP .mul (areaP (T i2)) (pl (T i2).o))) : PS3 W0 w' a3 a4 gp base n T i1 (i2 + 1) i3 l1 (l2 ++ [r]) vs xs := by
  have e := h.hb
  obtain ⟨e1, e2, e3, n1, n2, n3⟩ := h.ab
  refine ⟨h.kp.trans (Keep.of_only O h.hb fun _ => .inr (.inl rfl)), Nat.le_trans h.hb O.size, h.c3.only O (by omega) (by omega), by rw [accS_snoc]; exact A, h.ab, h.u1, fun x hx => ?_, h.p1, ?_, range_only h.cs O (by omega) (by omega), there_only h.th O (by omega) (by omega), fun k hk => owned_only (h.ow k hk) O fun g hg => by have := ((h.ow k hk).lt g hg).1; omega, h.ap, h.sm, h.lt⟩
  · rcases List.mem_append.1 hx with hx | hx
    · exact h.u2 x hx
    · rw [List.mem_singleton.1 hx]; exact hr.1
  · unfold cvL; rw [List.map_append, h.p2, List.range_succ, List.map_append]; simp [cvL, hr.2]
theorem PS3.push {w1 w3 : World} {k i : Nat} {v3 : Value} (h : PS3 W0 w a3 a4 gp base n T i1 i2 i3 l1 l2 vs xs) (hk : k < 3) (hi : i < n) (hb : Below w.heap.size w w1) (ho : w3.ownsRow base 60 23 v3 ((xs k).length + 1) ((xs k).flatMap (fun j => (T j).cells) ++ (T i).cells)) (hg : w1.grownBy w3 (vs k).ownBlock)
    (hbl : v3.ownBlock = (vs k).ownBlock ∨ v3.ownBlock = some w1.heap.size) : PS3 W0 (w3.setCell ⟨gp, k, none⟩ v3) a3 a4 gp base n T i1 i2 (i3 + 1) l1 l2 (fun j => if j = k then v3 else vs j) (fun j => if j = k then xs k ++ [i] else xs j) := by
  have h1 := h.below hb
  have e := h1.hb
  obtain ⟨e1, e2, e3, n1, n2, n3⟩ := h1.ab
  have hrow : ∀ b, (vs k).ownBlock = some b → base ≤ b := fun b hb => ((h1.ow k hk).lt b hb).1
  obtain ⟨r, hr, hO⟩ : ∃ r, base ≤ r ∧ Only r w1 w3 := by
    cases hv : (vs k).ownBlock with
    | none => exact ⟨w1.heap.size, e, ⟨hg.os, hg.tape, hg.output, hg.size, fun b hb _ => hg.block b hb (by rw [hv]; simp)⟩⟩
    | some b => exact ⟨b, hrow b hv, ⟨hg.os, hg.tape, hg.output, hg.size, fun c hc hne => hg.block c hc (by rw [hv]; simpa using hne)⟩⟩
  have hS : Only gp w3 (w3.setCell ⟨gp, k, none⟩ v3) := (Only.refl gp w3).setCell v3
  have s3 := hO.size
  have K : Keep base (fun k => k = a3 ∨ k = a4 ∨ k = gp) w1 w3 := Keep.of_only hO h1.hb fun hh => by omega
  refine ⟨h1.kp.trans (K.set ⟨gp, k, none⟩ v3 fun _ => .inr (.inr rfl)), Nat.le_trans (Nat.le_trans h1.hb hO.size) hS.size, (h1.c3.only hO (by omega) (by omega)).only hS (by omega) n2, (h1.c4.only hO (by omega) (by omega)).only hS (by omega) n3, h1.ab, h1.u1, h1.u2, h1.p1, h1.p2, ?_, there_set (there_only h1.th hO (by omega) (by omega)) _ _, fun j hj => ?_, fun a b c ha hb hab hc => ?_, ?_, fun j hj x hx => ?_⟩
  · have := range_setV (range_only h1.cs hO (by omega) (by omega)) (n := k) v3
    rcases (show k = 0 ∨ k = 1 ∨ k = 2 by omega) with rfl | rfl | rfl <;> exact this
  · by_cases hjk : j = k
    · subst hjk
      rw [if_pos rfl, if_pos rfl, List.length_append, List.flatMap_append]
      exact owned_set (by simpa using ho) (by exact e3) _
    · rw [if_neg hjk, if_neg hjk]
      refine owned_set (owned_at (h1.ow j hj) fun b hb hl => hg.block b hl fun e => ?_) (by exact e3) _
      exact h1.ap j k b hj hk hjk hb e.symm
  · have fresh : ∀ j, j < 3 → ∀ b, (vs j).ownBlock = some b → b < w1.heap.size := fun j hj b hb => ((h1.ow j hj).lt b hb).2
    by_cases hak : a = k
    · subst hak
      rw [if_pos rfl] at hc
      rw [if_neg (Ne.symm hab)]
      rcases hbl with hbl | hbl
      · exact h1.ap a b c ha hb hab (by rw [← hbl]; exact hc)
      · intro e
        rw [hc] at hbl
        injection hbl with hbl
        have := fresh b hb c e
        omega
    · rw [if_neg hak] at hc
      by_cases hbk : b = k
      · subst hbk
        rw [if_pos rfl]
        rcases hbl with hbl | hbl
        · rw [hbl]; exact h1.ap a b c ha hb hab hc
        · intro e
          rw [e] at hbl
          injection hbl with hbl
          have := fresh a ha c hc
          omega
      · rw [if_neg hbk]; exact h1.ap a b c ha hb hab hc
  · have hs := h1.sm
    rcases (show k = 0 ∨ k = 1 ∨ k = 2 by omega) with rfl | rfl | rfl <;> simp <;> omega
  · by_cases hjk : j = k
    · subst hjk
      rw [if_pos rfl] at hx
      rcases List.mem_append.1 hx with hx | hx
      · exact h1.lt j hj x hx
      · rw [List.mem_singleton.1 hx]; exact hi
    · rw [if_neg hjk] at hx; exact h1.lt j hj x hx
theorem PS3.len (h : PS3 W0 w a3 a4 gp base n T i1 i2 i3 l1 l2 vs xs) : l1.length = i1 ∧ l2.length = i2 := by
  have h1 := congrArg List.length h.p1
  have h2 := congrArg List.length h.p2
  unfold arL at h1; unfold cvL at h2
  simpa using And.intro h1 h2
/-- one of the parts -/
theorem PS3.part (h : PS3 W0 w a3 a4 gp base n T i1 i2 i3 l1 l2 vs xs) (hT : ∀ k, k < n → (T k).OK) {k : Nat} (hk : k < 3) : ∃ p c, vs k = .slice p (xs k).length c ∧ w.cell? ⟨gp, k, none⟩ = some (.slice p (xs k).length c) ∧ IT w p (xs k).length (fun j => T ((xs k).getD j 0)) ∧ ∀ j, j < (xs k).length → (T ((xs k).getD j 0)).OK := by
  obtain ⟨p, c, hv, -⟩ := owned_slice (h.ow k hk)
  have hok : ∀ j, j < (xs k).length → (T ((xs k).getD j 0)).OK := fun j hj => hT _ (h.lt k hk _ (by rw [List.getD_eq_getElem?_getD, List.getElem?_eq_getElem hj]; exact List.getElem_mem hj))
  have hc : w.cell? ⟨gp, k, none⟩ = some (vs k) := by
    have := h.cs k (vs k) (by rcases (show k = 0 ∨ k = 1 ∨ k = 2 by omega) with rfl | rfl | rfl <;> rfl)
    rwa [Nat.zero_add] at this
  refine ⟨p, c, hv, by rw [← hv]; exact hc, ?_, hok⟩
  rcases Nat.eq_zero_or_pos (xs k).length with h0 | h0
  · exact .inl h0
  · have ho := h.ow k hk
    rw [hv] at ho
    obtain ⟨g, rfl, -, hg⟩ := owned_some ho h0
    rw [flat_getD] at ho
    exact .inr ⟨g, rfl, hg, fun j hj => owned_rec (f := fun j => (T ((xs k).getD j 0)).cells) (fun j hj => ITM.len (hok j hj)) ho hj⟩
end
end Go.Proofs.Ytedkbjimofiphaa
