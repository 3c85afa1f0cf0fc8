/- galleyref02: Units. Whole numbers as rows of words of 64 bits: plain laws. -/
import Derived.Test.YthohhepoddnbnaaGreatDoorMgUG
import Derived.Test.YthohhepoddnbnaaGreatDoorMgAccH
namespace Go.Proofs.YthohhepoddnbnaaGreatDoor
open Go.RowKit Fl

theorem zero80 : Tryz.zeroCells80 = Array.replicate 70 (Value.int .u32 0) := by kernel_rfl
theorem zero130 : Tryz.zeroCells130 = (List.replicate 140 (Value.int .u32 0) ++ List.replicate 5 (Value.int .i64 0)).toArray := by kernel_rfl
theorem dg_zero' (j : Nat) : dg 0 j = 0 := by unfold dg; rw [Nat.zero_div]
theorem sum_new (w : World) : SumAt (w.alloc (.cells Tryz.zeroCells130 130)) w.heap.size 0 RS.zero := by
  have hu : ∀ j, j < 140 → (w.alloc (.cells Tryz.zeroCells130 130)).cell? ⟨w.heap.size, j, Option.none⟩ = some (.int .u32 0) := fun j hj => by
    rw [World.cell?_alloc_new w _ 130 j, zero130, List.getElem?_toArray, List.getElem?_append_left (by rw [List.length_replicate]; exact hj), List.getElem?_replicate, if_pos hj]
  have hi : ∀ j, j < 5 → (w.alloc (.cells Tryz.zeroCells130 130)).cell? ⟨w.heap.size, 140 + j, Option.none⟩ = some (.int .i64 0) := fun j hj => by
    rw [World.cell?_alloc_new w _ 130 (140 + j), zero130, List.getElem?_toArray, List.getElem?_append_right (by rw [List.length_replicate]; omega), List.length_replicate, List.getElem?_replicate, if_pos (by omega)]
  have hf : ∀ j, (w.alloc (.cells Tryz.zeroCells130 130)).frozen? ⟨w.heap.size, j, Option.none⟩ = false := fun j => by simp [go_sem]
  refine ⟨fun j hj => ⟨?_, hf _⟩, fun j hj => ⟨?_, hf _⟩, ⟨?_, hf _⟩, ⟨?_, hf _⟩, ⟨?_, hf _⟩, ⟨?_, hf _⟩, ⟨?_, hf _⟩⟩
  · rw [show RS.zero.up = 0 from rfl, dg_zero', hu _ (by omega)]; rfl
  · rw [show RS.zero.down = 0 from rfl, dg_zero', hu _ (by omega)]; rfl
  · exact hi 0 (by omega)
  · exact hi 1 (by omega)
  · exact hi 2 (by omega)
  · exact hi 3 (by omega)
  · exact hi 4 (by omega)
theorem up_one (x : Nat) (hf : rg x < 9218868437227405312) : (addR RS.zero (rg x)).up = Fl.val 52 (rg x) := by
  have h1 : fin (rg x) = true := by unfold fin; rw [rg_rg]; exact decide_eq_true hf
  unfold addR
  show 0 + (if fin (rg x) = true ∧ sg (rg x) = false then Fl.val 52 (rg (rg x)) else 0) = _
  rw [if_pos ⟨h1, sg_rg x⟩, rg_rg, Nat.zero_add]
structure UW (w wx : World) (s : RS) : Prop where
  c : URow wx w.heap.size 0 (fun _ => 0)
  s : SumAt wx (w.heap.size + 1) 0 s
  l : Below w.heap.size w wx
  z : w.heap.size + 1 < wx.heap.size
set_option maxRecDepth 100000 in
set_option maxHeartbeats 1000000 in
theorem lUnits (x : Nat) (w : World) (hx : U x) (hf : rg x < 9218868437227405312) : Calls Tryz.prog 48 #[.float .f64 x] w fun e w' => e = .returned (.agg (UL (Fl.val 52 (rg x))).toArray) ∧ Below w.heap.size w w' := by
  have C1 := Lib.hid (fun w => c171 x w hx)
  clear hx
  go_enter Tryz.func48, Tryz.ntmps48
  go_upto_region 2 with fail
  refine wp_gen' (fun wx => Hid (UW w wx RS.zero)) ?_ ?_
  · have e1 : (w.alloc (.cells Tryz.zeroCells80 80)).heap.size = w.heap.size + 1 := by simp
    have r0 : URow (w.alloc (.cells Tryz.zeroCells80 80)) w.heap.size 0 (fun _ => 0) := by rw [zero80]; exact urow_zero w
    have r1 := sum_new (w.alloc (.cells Tryz.zeroCells80 80))
    rw [e1] at r1
    exact Lib.hid ⟨r0.below ((Below.refl _ _).alloc (Nat.le_refl _) _) (by simp), r1, ((Below.refl _ _).alloc (Nat.le_refl _) _).alloc (by simp) _, by simp⟩
  intro wc hW
  have C2 := Lib.hid (c113 (w.heap.size + 1) 0 RS.zero (rg x) wc (U_rg x) hW.out.s hW.out.z (by decide))
  have HU := Lib.hid (up_one x hf)
  go_upto_region 3 with (first
    | (go_at_call 17; refine (C1.out _).mono ?_; rintro e w' ⟨rfl, rfl⟩)
    | (go_at_call 87; refine C2.out.mono ?_; rintro e w2 ⟨rfl, hs, ho⟩; have J : Hid (UW w w2 (addR RS.zero (rg x))) := Lib.hid (by have h := hW.out; have hz := h.z; exact ⟨h.c.only2 ho.only (by omega) (by omega), hs, ho.only.below (by omega) (by omega) h.l, Nat.lt_of_lt_of_le hz ho.only.size⟩); clear hs ho C2 hW))
  have RR := Lib.hid (show w2.rangeAt (w.heap.size + 1) 0 (UL (Fl.val 52 (rg x))) by have := J.out.s.up; rw [HU.out] at this; exact this.range)
  clear hf HU C1
  generalize hN : Fl.val 52 (rg x) = N at *
  have HN := Lib.hid hN
  clear hN
  have T0 := Lib.hid (J.out.c.there (n := (UL N).toArray.size) (by rw [List.size_toArray, UL_len]))
  have T1 := Lib.hid (J.out.c.there (n := (UL N).length) (UL_len _))
  have E1 := Lib.hid (show (Tryz.prog.info? 80).map (·.size) = some (UL N).length by rw [UL_len]; exact size108)
  have E2 := Lib.hid (show (Tryz.prog.info? 80).map (·.size) = some (UL N).toArray.size by rw [List.size_toArray, UL_len]; exact size108)
  have BB := Lib.hid (below_setCells J.out.l (Nat.le_refl _) 0 (UL N))
  clear J
  go_wp2_with (first
    | (refine wpList_load_mid rfl 80 (.tmp 7) rfl (w.heap.size + 1) 0 rfl (UL N) _ RR.out Tryz.underlying80 rfl E1.out ?_)
    | (refine wpList_store_mid rfl 80 (.tmp 2) (.tmp 8) rfl w.heap.size 0 (UL N).toArray rfl rfl T0.out E2.out (UL_one _) ?_))
  refine bodyPost_ret (v := .agg (UL N).toArray) (results_cell1 Tryz.results48 rfl (run_loadVar_mid (P := Tryz.prog) _ _ 0 80 (UL N) _ (World.rangeAt_setCells_same _ _ _ _ T1.out) Tryz.underlying80 rfl E1.out)) rfl ⟨by rw [HN.out], BB.out⟩
end Go.Proofs.YthohhepoddnbnaaGreatDoor

namespace Go.Proofs.YthohhepoddnbnaaGreatDoor

def BB : Nat := 18446744073709551616
theorem BB_pos : 0 < BB := by decide
/-- the number of a row -/
def val : List Nat → Nat
  | [] => 0
  | x :: l => x + BB * val l
/-- all are words -/
def W64 (l : List Nat) : Prop := ∀ x ∈ l, x < BB
theorem val_append (a b : List Nat) : val (a ++ b) = val a + BB ^ a.length * val b := by
  induction a with
  | nil => simp [val]
  | cons x a ih =>
    rw [List.cons_append, val, val, ih, List.length_cons, Nat.pow_succ, Nat.mul_add, Nat.add_assoc, ← Nat.mul_assoc, Nat.mul_comm BB (BB ^ a.length)]
theorem val_lt {l : List Nat} (h : W64 l) : val l < BB ^ l.length := by
  induction l with
  | nil => simp [val]
  | cons x l ih =>
    have h1 := h x (List.mem_cons_self ..)
    have h2 := ih fun y hy => h y (List.mem_cons_of_mem _ hy)
    rw [val, List.length_cons, Nat.pow_succ, Nat.mul_comm (BB ^ l.length)]
    have : BB * (val l + 1) ≤ BB * BB ^ l.length := Nat.mul_le_mul_left _ h2
    rw [Nat.mul_add, Nat.mul_one] at this
    omega
theorem val_take_succ {l : List Nat} {k : Nat} (h : k < l.length) : val (l.take (k + 1)) = val (l.take k) + BB ^ k * l.getD k 0 := by
  rw [List.take_add_one, List.getElem?_eq_getElem h, val_append, List.length_take, Nat.min_eq_left (by omega)]
  simp [val, List.getD, List.getElem?_eq_getElem h]
theorem val_replicate (n : Nat) : val (List.replicate n 0) = 0 := by
  induction n with
  | zero => rfl
  | succ n ih => rw [List.replicate_succ, val, ih, Nat.mul_zero]
theorem W64.take {l : List Nat} (h : W64 l) (k : Nat) : W64 (l.take k) := fun x hx => h x (List.mem_of_mem_take hx)
theorem W64.drop {l : List Nat} (h : W64 l) (k : Nat) : W64 (l.drop k) := fun x hx => h x (List.mem_of_mem_drop hx)
theorem W64.append {a b : List Nat} (h : W64 a) (k : W64 b) : W64 (a ++ b) := fun x hx => by
  rcases List.mem_append.1 hx with h1 | h1
  · exact h x h1
  · exact k x h1
theorem W64.getD {l : List Nat} (h : W64 l) (k : Nat) : l.getD k 0 < BB := by
  rw [List.getD]
  cases hk : l[k]? with
  | none => exact BB_pos
  | some x => exact h x (List.mem_of_getElem? hk)
theorem W64.replicate (n : Nat) : W64 (List.replicate n 0) := fun x hx => by rw [(List.mem_replicate.1 hx).2]; exact BB_pos
/-- nothing at the end is nought -/
def Can (l : List Nat) : Prop := l.length = 0 ∨ l.getD (l.length - 1) 0 ≠ 0
/-- how many words are left when noughts at the end are taken away, of the first k -/
def tn (l : List Nat) : Nat → Nat
  | 0 => 0
  | k + 1 => if l.getD k 0 = 0 then tn l k else k + 1
theorem tn_le (l : List Nat) : ∀ k, tn l k ≤ k
  | 0 => Nat.le_refl _
  | k + 1 => by
    unfold tn
    split
    · have := tn_le l k; omega
    · exact Nat.le_refl _
theorem tn_val {l : List Nat} : ∀ k, k ≤ l.length → val (l.take (tn l k)) = val (l.take k)
  | 0, _ => rfl
  | k + 1, h => by
    unfold tn
    split
    · rename_i h0
      rw [tn_val k (by omega), val_take_succ (by omega), h0, Nat.mul_zero, Nat.add_zero]
    · rfl
theorem tn_can {l : List Nat} : ∀ k, k ≤ l.length → Can (l.take (tn l k))
  | 0, _ => .inl (by simp [tn])
  | k + 1, h => by
    unfold tn
    split
    · exact tn_can k (by omega)
    · rename_i h0
      refine .inr ?_
      have e : (l.take (k + 1)).length = k + 1 := by rw [List.length_take]; omega
      rw [e, Nat.add_sub_cancel]
      rw [List.getD, List.getElem?_take, if_pos (by omega)]
      exact h0
theorem val_zero {l : List Nat} (h : Can l) (hv : val l = 0) : l = [] := by
  rcases h with h | h
  · exact List.eq_nil_of_length_eq_zero h
  · exfalso
    rcases Nat.eq_zero_or_pos l.length with h0 | h0
    · rw [List.eq_nil_of_length_eq_zero h0] at h; exact h rfl
    · have := val_take_succ (l := l) (k := l.length - 1) (by omega)
      rw [show l.length - 1 + 1 = l.length by omega, List.take_length, hv] at this
      have h1 : BB ^ (l.length - 1) * l.getD (l.length - 1) 0 = 0 := by omega
      rcases Nat.mul_eq_zero.1 h1 with h2 | h2
      · have := Nat.pow_pos (n := l.length - 1) BB_pos
        omega
      · exact h h2
theorem val_ge {l : List Nat} (h : Can l) (hl : 0 < l.length) : BB ^ (l.length - 1) ≤ val l := by
  rcases h with h | h
  · omega
  · have := val_take_succ (l := l) (k := l.length - 1) (by omega)
    rw [show l.length - 1 + 1 = l.length by omega, List.take_length] at this
    have h1 : BB ^ (l.length - 1) * 1 ≤ BB ^ (l.length - 1) * l.getD (l.length - 1) 0 := Nat.mul_le_mul_left _ (by omega)
    omega
theorem len_lt {a b : List Nat} (ha : W64 a) (hb : Can b) (h : a.length < b.length) : val a < val b := by
  have h1 := val_lt ha
  have h2 := val_ge hb (by omega)
  have h3 : BB ^ a.length ≤ BB ^ (b.length - 1) := Nat.pow_le_pow_right BB_pos (by omega)
  omega
/-- carried on: each step gives a word and what is carried -/
def crw (f : Nat → Nat → Nat × Nat) (c0 : Nat) : Nat → List Nat × Nat
  | 0 => ([], c0)
  | k + 1 => ((crw f c0 k).1 ++ [(f k (crw f c0 k).2).1], (f k (crw f c0 k).2).2)
theorem cr_len (f : Nat → Nat → Nat × Nat) (c0 : Nat) : ∀ k, (crw f c0 k).1.length = k
  | 0 => rfl
  | k + 1 => by rw [crw, List.length_append, cr_len f c0 k]; rfl
def sumN (t : Nat → Nat) : Nat → Nat
  | 0 => 0
  | k + 1 => sumN t k + BB ^ k * t k
theorem cr_val {f : Nat → Nat → Nat × Nat} {c0 : Nat} {t : Nat → Nat} {n : Nat} (h : ∀ k, k < n → (f k (crw f c0 k).2).1 + BB * (f k (crw f c0 k).2).2 = t k + (crw f c0 k).2) : ∀ k, k ≤ n → val (crw f c0 k).1 + BB ^ k * (crw f c0 k).2 = sumN t k + c0
  | 0, _ => by simp [crw, val, sumN]
  | k + 1, hk => by
    have ih := cr_val h k (by omega)
    have hs := h k (by omega)
    rw [crw, sumN]
    simp only
    rw [val_append, cr_len]
    simp only [val, Nat.mul_zero, Nat.add_zero]
    rw [Nat.pow_succ, Nat.mul_assoc, Nat.add_assoc, ← Nat.mul_add, hs, Nat.mul_add]
    omega
theorem sumN_val {l : List Nat} : ∀ k, k ≤ l.length → sumN (fun i => l.getD i 0) k = val (l.take k)
  | 0, _ => rfl
  | k + 1, h => by rw [sumN, sumN_val k (by omega), val_take_succ (by omega)]
theorem sumN_mul (t : Nat → Nat) (m : Nat) : ∀ k, sumN (fun i => t i * m) k = sumN t k * m
  | 0 => by simp [sumN]
  | k + 1 => by rw [sumN, sumN, sumN_mul t m k, Nat.add_mul, Nat.mul_assoc]
theorem sumN_add (t u : Nat → Nat) : ∀ k, sumN (fun i => t i + u i) k = sumN t k + sumN u k
  | 0 => rfl
  | k + 1 => by rw [sumN, sumN, sumN, sumN_add t u k, Nat.mul_add]; omega
theorem sumN_pad {l : List Nat} : ∀ n, l.length ≤ n → sumN (fun i => l.getD i 0) n = val l
  | n, h => by
    induction n with
    | zero => rw [List.eq_nil_of_length_eq_zero (show l.length = 0 by omega)]; rfl
    | succ n ih =>
      by_cases hn : l.length = n + 1
      · rw [sumN_val _ (by omega), ← hn, List.take_length]
      · rw [sumN, ih (by omega)]
        have : l.getD n 0 = 0 := by rw [List.getD, List.getElem?_eq_none (by omega)]; rfl
        rw [this, Nat.mul_zero, Nat.add_zero]
end Go.Proofs.YthohhepoddnbnaaGreatDoor
