/- Rows of words that a call makes: one more word behind them. Right and Quo of whole numbers: plain laws. Rows of words of the call's own: cells, stores, what stays. Left: plain laws. -/
import Derived.Test.YthohhepoddnbnaaGreatDoorMgLgC
import Derived.Deep.AppendLies
import Derived.Test.YthohhepoddnbnaaGreatDoorMgUG
namespace Go.Proofs.YthohhepoddnbnaaGreatDoor
open Go.RowKit Fl

def uv (x : Nat) : Value := .int .u64 (x : Int)
/-- a row of the call's own -/
def OU (w : World) (B : Nat) (v : Value) (l : List Nat) : Prop := w.ownsRow B 77 1 v l.length (l.map uv)
theorem info77 : (Tryz.prog.info? 77).map (fun i => (i.zero, i.size, i.bytes)) = some (some (.int .u64 0), 1, 8) := by kernel_rfl
theorem OU.nl {w : World} {B : Nat} {v : Value} {l : List Nat} (h : OU w B v l) (hW : W64 l) : NL w v l := by
  refine ⟨hW, ?_⟩
  obtain ⟨h1, h2⟩ := h
  rcases h2 with ⟨e, h2⟩ | ⟨g, cap, cur, rfl, hb, hg, h3, h4, h5, h6⟩
  · exact .inl ⟨e, List.eq_nil_of_length_eq_zero h2⟩
  · refine .inr ⟨g, 0, cap, rfl, h3, h4, (Array.getElem?_eq_some_iff.1 hg).1, fun j x hj => ?_⟩
    have hlt : j < l.length := (List.getElem?_eq_some_iff.1 hj).1
    have : (cur.toList.take (l.length * 1))[j]? = some (uv x) := by rw [h6, List.getElem?_map, hj]; rfl
    rw [List.getElem?_take, if_pos (by omega)] at this
    simp only [World.cell?, hg, Nat.zero_add]
    simpa [uv] using this
theorem OU.blk {w : World} {B : Nat} {v : Value} {l : List Nat} (h : OU w B v l) {g : Nat} (hg : blk v = some g) : B ≤ g := by
  rcases h.2 with ⟨e, _⟩ | ⟨g', cap, cur, rfl, hb, _⟩
  · rw [e] at hg; cases hg
  · cases hg; exact hb
theorem OU.made (wx : World) {p q : Nat} (h : p ≤ q) (hq : q ≤ maxLen) {B : Nat} (hB : B ≤ wx.heap.size) : OU (wx.alloc (.cells (madeCells #[.int .u64 0] q) 77)) B (.slice (some ⟨wx.heap.size, 0, none⟩) p q) (List.replicate p 0) := by
  have hm : (madeCells #[Value.int .u64 0] q).toList = List.replicate q (uv 0) := by
    unfold madeCells
    apply List.ext_getElem
    · simp
    · intro i h1 h2; simp [uv, Nat.mod_one]
  refine ⟨by simp, .inr ⟨wx.heap.size, q, _, by rw [List.length_replicate], hB, by show (wx.heap.push _)[wx.heap.size]? = _; simp; rfl, by rw [List.length_replicate]; exact h, hq, ?_, ?_⟩⟩
  · rw [← Array.length_toList, hm, List.length_replicate, Nat.mul_one]
  · rw [hm, List.length_replicate, Nat.mul_one, List.take_replicate, Nat.min_eq_left h, List.map_replicate]
theorem run_mk (p q : Nat) (h : p ≤ q) (hq : q ≤ 1000000) (wx : World) : (Instr.makeSlice 68 (.int .i64 p) (.int .i64 q)).run Tryz.prog wx = .ok (.slice (some ⟨wx.heap.size, 0, none⟩) p q) (wx.alloc (.cells (madeCells #[.int .u64 0] q) 77)) := by
  obtain ⟨i0, hi, hz0, hz1, hz2⟩ := info_parts info77
  have := run_make (P := Tryz.prog) wx 68 77 i0 (.int .u64 0) Tryz.underlying68 hi hz0 .i64 .i64 p q (by omega) (by omega) (by rw [hz2]; omega) (by omega)
  rw [hz1] at this
  simp only [Int.toNat_natCast, Nat.mul_one] at this
  exact this
theorem wpList_app {w0 : World} {ops : Array Oper} {rest : List Oper} {o : Oper} {a : Act} {Q : Exit → Act → World → Prop} (hgd : o.guard = none) (s x : Operand)
    (ho : o.op = .call { callee := .builtin .append, args := #[s, x], argTypes := #[68, 68] }) (B : Nat) (v : Value) (l : List Nat) (d : Nat) (hs : a.eval s = v) (hown : OU w0 B v l) (hx : a.eval x = .slice (some ⟨w0.heap.size, 0, none⟩) 1 1) (hl : l.length ≤ 1000000) (hB : B ≤ w0.heap.size)
    (h : ∀ v' w', OU w' B v' (l ++ [d]) → (∀ wB, B ≤ wB.heap.size → Below B wB w0 → Below B wB w') → w0.heap.size ≤ w'.heap.size → wpList Tryz.prog ops Q rest (a.put o.dst v') w') : wpList Tryz.prog ops Q (o :: rest) a (w0.alloc (.cells #[.int .u64 (d : Int)] 77)) := by
  obtain ⟨i0, hi, hz0, hz1, hz2⟩ := info_parts info77
  refine wpList_append_own _ hgd s x 68 ho B 77 i0 (.int .u64 0) 1 8 Tryz.underlying68 hi hz0 hz1 hz2 rfl (by decide) v l.length (l.map uv) hs (hown.alloc _) ⟨w0.heap.size, 0, none⟩ 1 1 [uv d] hx rfl ?_ ?_ (by unfold maxLen; omega) (by omega) (by simp; omega) ?_
  · intro j u hj
    match j, hj with
    | 0, hj => simp at hj; subst hj; simp [Addr.add, uv]
  · intro u hu; simp at hu; subst hu; rfl
  · intro v' w' own grow _
    refine h v' w' ?_ ?_ ?_
    · unfold OU
      rw [List.length_append, List.map_append]
      exact own
    · intro wB hb1 hb2
      refine (hb2.alloc hB _).grown grow (by simp; omega) fun k hk => ?_
      rcases hown.2 with ⟨e, _⟩ | ⟨g, _, _, e, hg, _⟩
      · rw [e] at hk; cases hk
      · rw [e] at hk; cases hk; exact hg
    · have := grow.size; simp at this; omega
end Go.Proofs.YthohhepoddnbnaaGreatDoor

namespace Go.Proofs.YthohhepoddnbnaaGreatDoor

/-- what Right writes -/
def rsV (s : Nat) : List Nat → List Nat
  | [] => []
  | x :: l => (x / 2 ^ s + l.getD 0 0 * 2 ^ (64 - s)) % BB :: rsV s l
theorem rsV_len (s : Nat) : ∀ l, (rsV s l).length = l.length
  | [] => rfl
  | x :: l => by rw [rsV, List.length_cons, List.length_cons, rsV_len s l]
theorem rsV_w64 (s : Nat) : ∀ l, W64 (rsV s l)
  | [] => fun x hx => (nomatch hx)
  | x :: l => fun y hy => by
    rw [rsV] at hy
    rcases List.mem_cons.1 hy with h | h
    · rw [h]; exact Nat.mod_lt _ BB_pos
    · exact rsV_w64 s l y h
theorem rsV_get (s : Nat) : ∀ (l : List Nat) (k x : Nat), l[k]? = some x → (rsV s l)[k]? = some ((x / 2 ^ s + l.getD (k + 1) 0 * 2 ^ (64 - s)) % BB)
  | [], k, x, h => by simp at h
  | y :: l, 0, x, h => by
    simp at h
    subst h
    rw [rsV]; rfl
  | y :: l, k + 1, x, h => by
    rw [rsV]
    have := rsV_get s l k x (by simpa using h)
    simpa using this
theorem BB_split (s : Nat) (hs : s ≤ 64) : BB = 2 ^ s * 2 ^ (64 - s) := by
  rw [← Nat.pow_add, show s + (64 - s) = 64 by omega]; rfl
theorem rs_alg (P M B x y v r : Nat) (hP : 0 < P) (hM : 0 < M) (hB : B = P * M) (hx : x < B) : (x / P + y * M) % B + B * ((y + B * v) / P) = (x + B * (y + B * v)) / P := by
  have e1 : x / P < M := by rw [Nat.div_lt_iff_lt_mul hP, Nat.mul_comm]; omega
  have e2 : (y + B * v) / P = y / P + M * v := by
    rw [hB, Nat.mul_assoc, Nat.add_mul_div_left _ _ hP]
  have e3 : (x + B * (y + B * v)) / P = x / P + M * (y + B * v) := by
    rw [hB, Nat.mul_assoc, Nat.add_mul_div_left _ _ hP]
  have e4 : y * M = B * (y / P) + (y % P) * M := by
    have := Nat.div_add_mod y P
    rw [hB]
    calc y * M = (P * (y / P) + y % P) * M := by rw [this]
      _ = P * M * (y / P) + y % P * M := by rw [Nat.add_mul, Nat.mul_right_comm]
  have e5 : x / P + (y % P) * M < B := by
    have h1 : y % P < P := Nat.mod_lt _ hP
    have h2 : (y % P + 1) * M ≤ P * M := Nat.mul_le_mul_right _ h1
    rw [Nat.add_mul, Nat.one_mul, ← hB] at h2
    omega
  rw [e2, e3, e4, show x / P + (B * (y / P) + y % P * M) = (x / P + y % P * M) + B * (y / P) by omega, Nat.add_mul_mod_self_left, Nat.mod_eq_of_lt e5, Nat.mul_add M, Nat.mul_comm M y, e4, Nat.mul_add]
  rw [show M * (B * v) = B * (M * v) by rw [Nat.mul_left_comm]]
  omega
theorem rsV_val {l : List Nat} (hW : W64 l) (s : Nat) (hs : s ≤ 63) : val (rsV s l) = val l / 2 ^ s := by
  induction l with
  | nil => simp [rsV, val]
  | cons x l ih =>
    have hx := hW x (List.mem_cons_self ..)
    have hl : W64 l := fun y hy => hW y (List.mem_cons_of_mem _ hy)
    rw [rsV, val, val, ih hl]
    cases l with
    | nil =>
      simp only [val, Nat.mul_zero, Nat.add_zero, Nat.zero_div]
      show (x / 2 ^ s + 0 * 2 ^ (64 - s)) % BB = x / 2 ^ s
      rw [Nat.zero_mul, Nat.add_zero]
      exact Nat.mod_eq_of_lt (Nat.lt_of_le_of_lt (Nat.div_le_self _ _) hx)
    | cons y l =>
      rw [val]
      exact rs_alg (2 ^ s) (2 ^ (64 - s)) BB x y (val l) 0 (Nat.pow_pos (by decide)) (Nat.pow_pos (by decide)) (BB_split s (by omega)) hx
/-- words away, then bits -/
theorem val_drop {l : List Nat} (hW : W64 l) (k s : Nat) : val l / 2 ^ (64 * k + s) = val (l.drop k) / 2 ^ s := by
  have e : val l = val (l.take k) + BB ^ (l.take k).length * val (l.drop k) := by rw [← val_append, List.take_append_drop]
  have hl : val (l.take k) < BB ^ (l.take k).length := val_lt (hW.take k)
  rw [Nat.pow_add, ← Nat.div_div_eq_div_mul]
  congr 1
  have hb : 2 ^ (64 * k) = BB ^ k := by rw [Nat.pow_mul]; rfl
  rw [hb]
  rcases Nat.lt_or_ge l.length k with h | h
  · rw [List.drop_eq_nil_of_le (by omega), val, Nat.div_eq_of_lt]
    exact Nat.lt_of_lt_of_le (val_lt hW) (Nat.pow_le_pow_right BB_pos (by omega))
  · rw [List.length_take, Nat.min_eq_left h] at e hl
    rw [e, Nat.add_mul_div_left _ _ (Nat.pow_pos BB_pos), Nat.div_eq_of_lt hl, Nat.zero_add]
/-- whether something is lost: words that are not nought, or bits of the first word that stands -/
theorem val_lost {l : List Nat} (hW : W64 l) (k s : Nat) (hs : s ≤ 63) : val l % 2 ^ (64 * k + s) = 0 ↔ (val (l.take k) = 0 ∧ (l.drop k).getD 0 0 % 2 ^ s = 0) := by
  have e : val l = val (l.take k) + BB ^ (l.take k).length * val (l.drop k) := by rw [← val_append, List.take_append_drop]
  have hl : val (l.take k) < BB ^ (l.take k).length := val_lt (hW.take k)
  have hb : 2 ^ (64 * k) = BB ^ k := by rw [Nat.pow_mul]; rfl
  rcases Nat.lt_or_ge l.length k with h | h
  · have hd : l.drop k = [] := List.drop_eq_nil_of_le (by omega)
    have ht : l.take k = l := List.take_of_length_le (by omega)
    rw [hd, ht]
    have hlt : val l < 2 ^ (64 * k + s) := by
      rw [Nat.pow_add, hb]
      have h1 := Nat.lt_of_lt_of_le (val_lt hW) (Nat.pow_le_pow_right BB_pos (show l.length ≤ k by omega))
      have h2 : 0 < 2 ^ s := Nat.pow_pos (by decide)
      exact Nat.lt_of_lt_of_le h1 (Nat.le_mul_of_pos_right _ h2)
    rw [Nat.mod_eq_of_lt hlt]
    simp
  · rw [List.length_take, Nat.min_eq_left h] at e hl
    have hv : val (l.drop k) % 2 ^ s = (l.drop k).getD 0 0 % 2 ^ s := by
      cases l.drop k with
      | nil => simp [val]
      | cons x r =>
        rw [val, BB_split s (by omega), Nat.mul_assoc, Nat.add_mul_mod_self_left]
        rfl
    rw [← hv, e, Nat.pow_add, hb, Nat.mod_mul, Nat.add_mul_mod_self_left, Nat.mod_eq_of_lt hl, Nat.add_mul_div_left _ _ (Nat.pow_pos BB_pos), Nat.div_eq_of_lt hl, Nat.zero_add]
    have hp : 0 < BB ^ k := Nat.pow_pos BB_pos
    generalize val (l.drop k) % 2 ^ s = z
    constructor
    · intro h0
      have h1 : val (l.take k) = 0 := by omega
      refine ⟨h1, ?_⟩
      rw [h1, Nat.zero_add] at h0
      rcases Nat.mul_eq_zero.1 h0 with h2 | h2
      · omega
      · exact h2
    · rintro ⟨h1, h2⟩
      rw [h1, h2, Nat.mul_zero]
/-- one word put elsewhere -/
theorem val_set {l : List Nat} {k x y : Nat} (h : l[k]? = some x) (hxy : x ≤ y) : val (l.set k y) = val l + BB ^ k * (y - x) := by
  induction l generalizing k with
  | nil => simp at h
  | cons z l ih =>
    cases k with
    | zero =>
      simp at h
      subst h
      simp only [List.set_cons_zero, val, Nat.pow_zero, Nat.one_mul]
      omega
    | succ k =>
      have h' : l[k]? = some x := by simpa using h
      rw [List.set_cons_succ, val, val, ih h', Nat.mul_add, Nat.pow_succ, Nat.mul_comm (BB ^ k) BB, Nat.mul_assoc, Nat.add_assoc]
theorem W64.set {l : List Nat} (h : W64 l) {k y : Nat} (hy : y < BB) : W64 (l.set k y) := fun x hx => by
  rcases List.mem_or_eq_of_mem_set hx with h1 | h1
  · exact h x h1
  · rw [h1]; exact hy
/-- a bit that is not set: put in -/
theorem or_bit {x j : Nat} (h : x % 2 ^ (j + 1) = 0) : x ||| 2 ^ j = x + 2 ^ j := by
  obtain ⟨q, hq⟩ := Nat.dvd_of_mod_eq_zero h
  have h1 : (2 : Nat) ^ j < 2 ^ (j + 1) := by rw [Nat.pow_succ]; have := Nat.pow_pos (n := j) (show 0 < 2 by decide); omega
  rw [hq, Nat.two_pow_add_eq_or_of_lt h1]
/-- the word of a number whose low bits are nought -/
theorem word_low {l : List Nat} (hW : W64 l) {i x : Nat} (hx : l[i / 64]? = some x) (h : val l % 2 ^ (i + 1) = 0) : x % 2 ^ (i % 64 + 1) = 0 := by
  rcases Nat.lt_or_ge (i % 64) 63 with h63 | h63
  · have := (val_lost hW (i / 64) (i % 64 + 1) (by omega)).1 (by rw [show 64 * (i / 64) + (i % 64 + 1) = i + 1 by omega]; exact h)
    have e : (l.drop (i / 64)).getD 0 0 = x := by rw [List.getD, List.getElem?_drop, Nat.add_zero, hx]; rfl
    rw [e] at this
    exact this.2
  · have := (val_lost hW (i / 64 + 1) 0 (by omega)).1 (by rw [show 64 * (i / 64 + 1) + 0 = i + 1 by omega]; exact h)
    have h0 := this.1
    have hlt : i / 64 < l.length := (List.getElem?_eq_some_iff.1 hx).1
    rw [val_take_succ hlt] at h0
    have e : l.getD (i / 64) 0 = x := by rw [List.getD, hx]; rfl
    rw [e] at h0
    have hp : 0 < BB ^ (i / 64) := Nat.pow_pos BB_pos
    have hx0 : x = 0 := by
      have h2 : BB ^ (i / 64) * x = 0 := by omega
      rcases Nat.mul_eq_zero.1 h2 with h3 | h3
      · omega
      · exact h3
    rw [hx0]; exact Nat.zero_mod _
theorem val_bit {l : List Nat} (hW : W64 l) {i x : Nat} (hx : l[i / 64]? = some x) (h : val l % 2 ^ (i + 1) = 0) : val (l.set (i / 64) (x ||| 2 ^ (i % 64))) = val l + 2 ^ i ∧ x ||| 2 ^ (i % 64) < BB := by
  have hb := or_bit (word_low hW hx h)
  have hx2 : x < BB := hW x (List.mem_of_getElem? hx)
  refine ⟨?_, ?_⟩
  · rw [val_set (y := x ||| 2 ^ (i % 64)) hx (by rw [hb]; exact Nat.le_add_right _ _), hb, Nat.add_sub_cancel_left]
    congr 1
    have : BB ^ (i / 64) = 2 ^ (64 * (i / 64)) := by rw [Nat.pow_mul]; rfl
    rw [this, ← Nat.pow_add]
    congr 1
    omega
  · have : BB = 2 ^ 64 := rfl
    rw [this] at hx2 ⊢
    exact Nat.or_lt_two_pow hx2 (Nat.pow_lt_pow_right (by decide) (by omega))
/-- one step of Quo: the state (what is left, quotient so far) -/
structure QS (a0 b : Nat) (k a Q : Nat) : Prop where
  lt : a < b * 2 ^ k
  sum : a0 = a + b * Q
  low : Q % 2 ^ k = 0
theorem QS.take {a0 b k a Q : Nat} (h : QS a0 b (k + 1) a Q) (hd : b * 2 ^ k ≤ a) : QS a0 b k (a - b * 2 ^ k) (Q + 2 ^ k) := by
  obtain ⟨h1, h2, h3⟩ := h
  refine ⟨?_, ?_, ?_⟩
  · rw [Nat.pow_succ, ← Nat.mul_assoc] at h1; omega
  · rw [Nat.mul_add]; omega
  · have := Nat.mod_mod_of_dvd Q (Nat.pow_dvd_pow 2 (Nat.le_succ k))
    rw [h3, Nat.zero_mod] at this
    rw [Nat.add_mod_right]; exact this.symm
theorem QS.skip {a0 b k a Q : Nat} (h : QS a0 b (k + 1) a Q) (hd : a < b * 2 ^ k) : QS a0 b k a Q := by
  obtain ⟨h1, h2, h3⟩ := h
  have := Nat.mod_mod_of_dvd Q (Nat.pow_dvd_pow 2 (Nat.le_succ k))
  rw [h3, Nat.zero_mod] at this
  exact ⟨hd, h2, this.symm⟩
theorem QS.done {a0 b a Q : Nat} (h : QS a0 b 0 a Q) : a = a0 % b ∧ Q = a0 / b := by
  obtain ⟨h1, h2, h3⟩ := h
  rw [Nat.pow_zero, Nat.mul_one] at h1
  subst h2
  refine ⟨?_, ?_⟩
  · rw [Nat.add_mul_mod_self_left, Nat.mod_eq_of_lt h1]
  · rw [Nat.add_mul_div_left _ _ (by omega), Nat.div_eq_of_lt h1, Nat.zero_add]
theorem half_mul (b k : Nat) : b * 2 ^ (k + 1) / 2 = b * 2 ^ k := by rw [Nat.pow_succ, ← Nat.mul_assoc, Nat.mul_div_cancel _ (by decide)]
end Go.Proofs.YthohhepoddnbnaaGreatDoor

namespace Go.Proofs.YthohhepoddnbnaaGreatDoor
open Go.RowKit Fl

theorem owned_put {w : World} {base n g c j : Nat} {e : TypeId} {xs : List Value} (h : w.ownsRow base e 1 (.slice (some ⟨g, 0, none⟩) n c) n xs) (hj : j < n) (v : Value) :
    (w.setCell ⟨g, j, none⟩ v).ownsRow base e 1 (.slice (some ⟨g, 0, none⟩) n c) n (xs.set j v) := by
  refine ⟨by rw [List.length_set]; exact h.1, ?_⟩
  rcases h.2 with ⟨h1, -⟩ | ⟨g', cap, cur, h1, h2, h3, h4, h5, h6, h7⟩
  · cases h1
  · injection h1 with a1 a2 a3
    injection a1 with a1
    injection a1 with a1
    subst a1 a3
    refine Or.inr ⟨g, c, cur.setIfInBounds j v, rfl, h2, ?_, h4, h5, by rw [Array.size_setIfInBounds]; exact h6, ?_⟩
    · unfold World.setCell
      simp [Array.getElem?_modify, h3]
    · rw [Array.toList_setIfInBounds, List.take_set, h7]
theorem OU.cell {w : World} {B g c n : Nat} {l : List Nat} (h : OU w B (.slice (some ⟨g, 0, none⟩) n c) l) (hn : n = l.length) {j x : Nat} (hj : l[j]? = some x) : w.cell? ⟨g, j, none⟩ = some (.int .u64 (x : Int)) ∧ w.frozen? ⟨g, j, none⟩ = false := by
  subst hn
  have hl := (List.getElem?_eq_some_iff.1 hj).1
  refine ⟨?_, World.ownsRow.frozenAt h j⟩
  rw [World.ownsRow.cellAt h j (by omega), List.getElem?_map, hj]; rfl
theorem OU.put {w : World} {B g c n : Nat} {l : List Nat} (h : OU w B (.slice (some ⟨g, 0, none⟩) n c) l) (hn : n = l.length) {j : Nat} (hj : j < l.length) (x : Nat) : OU (w.setCell ⟨g, j, none⟩ (.int .u64 (x : Int))) B (.slice (some ⟨g, 0, none⟩) n c) (l.set j x) := by
  subst hn
  have := owned_put h hj (uv x)
  unfold OU
  rw [List.length_set, List.map_set]
  exact this
theorem OU.below {w w' : World} {B : Nat} {v : Value} {l : List Nat} (h : OU w B v l) (hb : Below w.heap.size w w') : OU w' B v l := by
  obtain ⟨h1, h2⟩ := h
  refine ⟨h1, ?_⟩
  rcases h2 with h2 | ⟨g, cap, cur, e1, e2, e3, e4⟩
  · exact .inl h2
  · have hg : g < w.heap.size := (Array.getElem?_eq_some_iff.1 e3).1
    exact .inr ⟨g, cap, cur, e1, e2, by rw [hb.block g hg]; exact e3, e4⟩
theorem NA.drop {w : World} {b o : Nat} {l : List Nat} (h : NA w b o l) (k : Nat) : NA w b (o + k) (l.drop k) := ⟨h.1, fun j x hj => by
  rw [List.getElem?_drop] at hj
  have := h.2 (k + j) x hj
  rwa [← Nat.add_assoc] at this⟩
end Go.Proofs.YthohhepoddnbnaaGreatDoor

namespace Go.Proofs.YthohhepoddnbnaaGreatDoor
open Go.RowKit Fl

/-- one step of Left: the word that is written, what is carried -/
def shF (l : List Nat) (s : Nat) (k c : Nat) : Nat × Nat := ((l.getD k 0 * 2 ^ s + c) % BB, (l.getD k 0 * 2 ^ s + c) / BB)
theorem sh_carry {l : List Nat} (hW : W64 l) (s : Nat) : ∀ k, (crw (shF l s) 0 k).2 < 2 ^ s
  | 0 => Nat.pow_pos (by decide)
  | k + 1 => by
    have ih := sh_carry hW s k
    have hx := hW.getD k
    rw [crw]
    show (l.getD k 0 * 2 ^ s + (crw (shF l s) 0 k).2) / BB < 2 ^ s
    rw [Nat.div_lt_iff_lt_mul BB_pos]
    have : (l.getD k 0 + 1) * 2 ^ s ≤ BB * 2 ^ s := Nat.mul_le_mul_right _ hx
    rw [Nat.add_mul, Nat.one_mul] at this
    rw [Nat.mul_comm (2 ^ s)]
    omega
theorem BB_two : BB = 2 ^ 64 := rfl
theorem sh_split (s : Nat) (hs : s ≤ 64) : BB = 2 ^ (64 - s) * 2 ^ s := by
  rw [← Nat.pow_add, BB_two]; congr 1; omega
theorem sh_or {x low s : Nat} (hs : s ≤ 63) (hl : low < 2 ^ s) : (x * 2 ^ s % BB) ||| low = (x * 2 ^ s + low) % BB := by
  have e := sh_split s (by omega)
  have h1 : x * 2 ^ s % BB = 2 ^ s * (x % 2 ^ (64 - s)) := by
    rw [e, Nat.mul_mod_mul_right, Nat.mul_comm]
  have h2 : x % 2 ^ (64 - s) < 2 ^ (64 - s) := Nat.mod_lt _ (Nat.pow_pos (by decide))
  have h3 : 2 ^ s * (x % 2 ^ (64 - s)) + low < BB := by
    have : 2 ^ s * (x % 2 ^ (64 - s) + 1) ≤ 2 ^ s * 2 ^ (64 - s) := Nat.mul_le_mul_left _ h2
    rw [Nat.mul_add, Nat.mul_one, Nat.mul_comm (2 ^ s) (2 ^ (64 - s)), ← e] at this
    omega
  rw [Nat.add_mod, h1, Nat.mod_eq_of_lt (show low < BB by omega), Nat.mod_eq_of_lt h3, Nat.two_pow_add_eq_or_of_lt hl]
theorem shw_div {x low s : Nat} (hs : s ≤ 63) (hl : low < 2 ^ s) : x / 2 / 2 ^ (63 - s) = (x * 2 ^ s + low) / BB := by
  rw [Nat.div_div_eq_div_mul, show 2 * 2 ^ (63 - s) = 2 ^ (64 - s) from by rw [Nat.mul_comm, ← Nat.pow_succ]; congr 1; omega]
  rw [sh_split s (by omega), Nat.mul_comm (2 ^ (64 - s)), ← Nat.div_div_eq_div_mul]
  congr 1
  rw [Nat.mul_comm x, Nat.mul_add_div (Nat.pow_pos (by decide)), Nat.div_eq_of_lt hl, Nat.add_zero]
/-- all that Left writes -/
theorem sh_val {l : List Nat} (hW : W64 l) (s q : Nat) : val (List.replicate q 0 ++ (crw (shF l s) 0 l.length).1 ++ [(crw (shF l s) 0 l.length).2]) = val l * 2 ^ (64 * q + s) := by
  have h := cr_val (f := shF l s) (c0 := 0) (t := fun i => l.getD i 0 * 2 ^ s) (n := l.length) (fun k _ => by
    show (l.getD k 0 * 2 ^ s + (crw (shF l s) 0 k).2) % BB + BB * ((l.getD k 0 * 2 ^ s + (crw (shF l s) 0 k).2) / BB) = _
    exact Nat.mod_add_div _ _) l.length (Nat.le_refl _)
  rw [sumN_mul, sumN_val _ (Nat.le_refl _), List.take_length, Nat.add_zero] at h
  rw [List.append_assoc, val_append, val_replicate, List.length_replicate, Nat.zero_add, val_append, cr_len]
  simp only [val, Nat.mul_zero, Nat.add_zero]
  rw [h, BB_pow, Nat.pow_add]
  rw [Nat.mul_comm (2 ^ (64 * q)), Nat.mul_assoc, Nat.mul_comm (2 ^ s)]
theorem sh_w64 {l : List Nat} (hW : W64 l) (s q : Nat) (hs : s ≤ 63) : W64 (List.replicate q 0 ++ (crw (shF l s) 0 l.length).1 ++ [(crw (shF l s) 0 l.length).2]) := by
  refine ((W64.replicate q).append ?_).append fun x hx => ?_
  · have : ∀ k, W64 (crw (shF l s) 0 k).1 := by
      intro k
      induction k with
      | zero => intro x hx; cases hx
      | succ k ih =>
        rw [crw]
        refine ih.append fun x hx => ?_
        rcases List.mem_singleton.1 hx with rfl
        exact Nat.mod_lt _ BB_pos
    exact this _
  · rcases List.mem_singleton.1 hx with rfl
    have := sh_carry hW s l.length
    have h2 : 2 ^ s ≤ 2 ^ 64 := Nat.pow_le_pow_right (by decide) (by omega)
    rw [← BB_two] at h2
    omega
end Go.Proofs.YthohhepoddnbnaaGreatDoor
