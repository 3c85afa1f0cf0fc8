/- strconv.ParseUint of digits. Right and Quo of whole numbers: plain laws. Rows of words of the call's own: cells, stores, what stays. Whole numbers as 40 words of 64 bits, below nought by the two's complement: the plain laws. Steps of the relational walk by the operation's kind; each fails at once where it does not fit. -/
import Derived.Test.YtlgencbldbpbdaaGreatDoorMgDhB
import Derived.Test.YtlgencbldbpbdaaGreatDoorMgLgE
import Derived.Lib.ConvBytes
import Derived.Lib.AtoiErrMem
import Derived.IntWalk
import Derived.Test.YtlgencbldbpbdaaGreatDoorRel
namespace Go.Proofs.YtlgencbldbpbdaaGreatDoor
open Go.RowKit Fl
theorem wp_gen' {P : Program} {c : Code} {Q : Exit → Act → World → Prop} {a : Act} {w : World} (R : World → Prop) (h : R w) (k : ∀ wx, R wx → c.wp P Q a wx) : c.wp P Q a w := k w h
theorem ten18 {k : Nat} (h : k ≤ 18) : 10 ^ k ≤ 1000000000000000000 := by
 have := Nat.pow_le_pow_right (show 0 < 10 by decide) h
 rwa [show (10 : Nat) ^ 18 = 1000000000000000000 from by decide] at this
theorem bl_data (s : ByteArray) (j : Nat) : (s.data.toList.getD j 0).toNat = (bl s).getD j 0 := by
 unfold bl
 rw [List.getD, List.getD, List.getElem?_map]
 cases s.data.toList[j]? <;> rfl
set_option maxRecDepth 100000 in
set_option maxHeartbeats 4000000 in
theorem lPU0 (s : ByteArray) (w : World) (hd : DG (bl s)) (h0 : 0 < s.size) (h1 : s.size ≤ 18) :
  Calls Tryz.prog 266 #[.string s, .int .i64 10, .int .i64 64] w fun e w' => e = .returned (.tuple #[.int .u64 (dval (bl s) : Nat), .nilIface]) ∧ Below w.heap.size w w' := by
 obtain ⟨e1, e2⟩ := full_bl h0
 have kc : ∀ w, (convert 9 179 (.string s)).run Tryz.prog w = .ok (.slice (some ⟨w.heap.size, 0, none⟩) s.size (grownCap w s.size 0 5)) (Lib.bytesWorld w 5 s) := fun w => Lib.run_convert_string_bytes w 9 179 5 s Tryz.underlying9 Tryz.underlying179 Tryz.underlying5
 have KB := Lib.hid (fun j (hj : j < s.size) => Lib.bytesWorld_cell w 5 s j hj)
 have B0 := Lib.hid (Lib.bytesWorld_below w 5 s)
 have HD := Lib.hid hd
 have LB := Lib.hid (bl_len s)
 have s1 : (s.size : Int) ≤ 18 := by omega
 have HS := Lib.hid (And.intro h0 h1)
 have GC : Hid (s.size ≤ grownCap w s.size 0 5) := Lib.hid (Go.grownCap_ge w s.size 0 5)
 have wz : IntKind.u64.wrap 18446744073709551616 = 0 := by decide
 have wm : IntKind.u64.wrap (-1) = 18446744073709551615 := by decide
 have wm2 : IntKind.u64.wrap (0 - 1) = 18446744073709551615 := by decide
 clear hd h0 h1
 go_enter Tryz.func266, Tryz.ntmps266
 go_upto_region 36 with fail
 generalize Lib.bytesWorld w 5 s = w1 at *
 generalize grownCap w s.size 0 5 = cp at *
 clear kc
 go_loopw [12, 13, 101] (fun us n i wx => ∃ k : Nat, k ≤ s.size ∧ us = .bool false ∧ i = .int .i64 k ∧ n = .int .u64 (dval ((bl s).take k) : Nat) ∧ wx = w1) (fun _ _ i _ => s.size - (intOf i).toNat)
 case atStart => exact ⟨0, Nat.zero_le _, rfl, rfl, rfl, rfl⟩
 case round =>
  obtain ⟨k, hk, rfl, rfl, rfl, rfl⟩ := hrel
  by_cases hlt : k < s.size
  ·have hki : (k : Int) < (s.size : Int) := by omega
   have kcell := KB.out k hlt
   rw [bl_data, bl_getD s k hlt] at kcell
   have hx := bl_get s k hlt
   have hdg := HD.out _ (List.mem_of_getElem? hx)
   have E := dval_take hx
   have hb := dval_lt HD.out k (by rw [LB.out]; exact hk)
   have ht := ten18 (k := k) (by have := HS.out.2; omega)
   obtain ⟨x, hxe⟩ : ∃ x, x = (s[k]).toNat := ⟨_, rfl⟩
   rw [← hxe] at kcell hdg E
   have x1 : (48 : Int) ≤ (x : Int) := by omega
   have x2 : (x : Int) ≤ 57 := by omega
   obtain ⟨n, hn⟩ : ∃ n, n = dval ((bl s).take k) := ⟨_, rfl⟩
   rw [← hn] at hb E ⊢
   obtain ⟨d, hde⟩ : ∃ d, d = x - 48 := ⟨_, rfl⟩
   rw [← hde] at E
   have d1 : (x : Int) - 48 = (d : Int) := by omega
   have d2 : (d : Int) ≤ 9 := by omega
   have n1 : (n : Int) ≤ 1000000000000000000 := by omega
   have d3 : IntKind.u64.wrap (d : Int) = (d : Int) := by rw [IntKind.wrap_u64]; omega
   have EH := Lib.hid E
   have HK := Lib.hid hlt
   have GC2 : (s.size : Int) ≤ (cp : Int) := by have := GC.out; omega
   have t1 : decide ((1844674407370955162 : Int) ≤ (n : Int)) = false := decide_eq_false (by omega)
   have t2 : decide ((18446744073709551615 : Int) < ((n * 10 + d : Nat) : Int)) = false := decide_eq_false (by omega)
   have t3 : decide (((n * 10 + d : Nat) : Int) < ((n * 10 : Nat) : Int)) = false := decide_eq_false (by omega)
   have t4 : IntKind.u64.wrap ((n : Int) * 10) = ((n * 10 : Nat) : Int) := by rw [IntKind.wrap_u64]; omega
   have t5 : IntKind.u64.wrap (((n * 10 : Nat) : Int) + (d : Int)) = ((n * 10 + d : Nat) : Int) := by rw [IntKind.wrap_u64]; omega
   clear hx hdg hb ht hxe hn hde E hk
   go_wp2_with fail
   go_roundw
   case rel => exact ⟨k + 1, HK.out, rfl, by go_num, by rw [EH.out]; push_cast; rfl, trivial⟩
   case measure => have := HK.out; simp [intOf]; omega
  ·have hki : ¬ (k : Int) < (s.size : Int) := by omega
   have hkn : k = s.size := by omega
   subst hkn
   have E : Hid (dval ((bl s).take s.size) = dval (bl s)) := Lib.hid (by rw [List.take_of_length_le (by rw [LB.out]; exact Nat.le_refl _)])
   clear hlt hk
   go_wp2_with fail
   go_ret2
   exact ⟨by rw [E.out]; rfl, B0.out⟩
set_option maxRecDepth 100000 in
set_option maxHeartbeats 4000000 in
theorem lPU (s : ByteArray) (w : World) (hd : DG (bl s)) (h0 : 0 < s.size) (h1 : s.size ≤ 18) :
  Calls Tryz.prog 287 #[.string s, .int .i64 10, .int .i64 64] w fun e w' => e = .returned (.tuple #[.int .u64 (dval (bl s) : Nat), .nilIface]) ∧ Below w.heap.size w w' := by
 have hI := lPU0 s w hd h0 h1
 clear hd h0 h1
 generalize dval (bl s) = n at *
 go_enter Tryz.func287, Tryz.ntmps287
 go_wp2_with (go_at_call 266; refine hI.mono ?_; rintro e W1 ⟨rfl, hW⟩)
 go_ret2
 exact ⟨rfl, hW⟩
end Go.Proofs.YtlgencbldbpbdaaGreatDoor
namespace Go.Proofs.YtlgencbldbpbdaaGreatDoor
def rsV (s : Nat) : List Nat → List Nat
 | [] => []
 | x :: l => (x / 2 ^ s + l.getD 0 0 * 2 ^ (64 - s)) % BB :: rsV s l
theorem rsV_len (s : Nat) : ∀ l, (rsV s l).length = l.length
 | [] => rfl
 | x :: l => by rw [rsV, List.length_cons, List.length_cons, rsV_len s l]
theorem rsV_w64 (s : Nat) : ∀ l, W64 (rsV s l)
 | [] => fun x hx => (nomatch hx)
 | x :: l => fun y hy => by
   rw [rsV] at hy
   rcases List.mem_cons.1 hy with h | h
   ·rw [h]; exact Nat.mod_lt _ BB_pos
   ·exact rsV_w64 s l y h
theorem rsV_get (s : Nat) : ∀ (l : List Nat) (k x : Nat), l[k]? = some x → (rsV s l)[k]? = some ((x / 2 ^ s + l.getD (k + 1) 0 * 2 ^ (64 - s)) % BB)
 | [], k, x, h => by simp at h
 | y :: l, 0, x, h => by
   simp at h
   subst h
   rw [rsV]; rfl
 | y :: l, k + 1, x, h => by
   rw [rsV]
   have := rsV_get s l k x (by simpa using h)
   simpa using this
theorem BB_split (s : Nat) (hs : s ≤ 64) : BB = 2 ^ s * 2 ^ (64 - s) := by
 rw [← Nat.pow_add, show s + (64 - s) = 64 by omega]; rfl
theorem rs_alg (P M B x y v r : Nat) (hP : 0 < P) (hM : 0 < M) (hB : B = P * M) (hx : x < B) : (x / P + y * M) % B + B * ((y + B * v) / P) = (x + B * (y + B * v)) / P := by
 have e1 : x / P < M := by rw [Nat.div_lt_iff_lt_mul hP, Nat.mul_comm]; omega
 have e2 : (y + B * v) / P = y / P + M * v := by
  rw [hB, Nat.mul_assoc, Nat.add_mul_div_left _ _ hP]
 have e3 : (x + B * (y + B * v)) / P = x / P + M * (y + B * v) := by
  rw [hB, Nat.mul_assoc, Nat.add_mul_div_left _ _ hP]
 have e4 : y * M = B * (y / P) + (y % P) * M := by
  have := Nat.div_add_mod y P
  rw [hB]
  calc y * M = (P * (y / P) + y % P) * M := by rw [this]
   _ = P * M * (y / P) + y % P * M := by rw [Nat.add_mul, Nat.mul_right_comm]
 have e5 : x / P + (y % P) * M < B := by
  have h1 : y % P < P := Nat.mod_lt _ hP
  have h2 : (y % P + 1) * M ≤ P * M := Nat.mul_le_mul_right _ h1
  rw [Nat.add_mul, Nat.one_mul, ← hB] at h2
  omega
 rw [e2, e3, e4, show x / P + (B * (y / P) + y % P * M) = (x / P + y % P * M) + B * (y / P) by omega, Nat.add_mul_mod_self_left, Nat.mod_eq_of_lt e5, Nat.mul_add M, Nat.mul_comm M y, e4, Nat.mul_add]
 rw [show M * (B * v) = B * (M * v) by rw [Nat.mul_left_comm]]
 omega
theorem rsV_val {l : List Nat} (hW : W64 l) (s : Nat) (hs : s ≤ 63) : val (rsV s l) = val l / 2 ^ s := by
 induction l with
 | nil => simp [rsV, val]
 | cons x l ih =>
   have hx := hW x (List.mem_cons_self ..)
   have hl : W64 l := fun y hy => hW y (List.mem_cons_of_mem _ hy)
   rw [rsV, val, val, ih hl]
   cases l with
   | nil =>
     simp only [val, Nat.mul_zero, Nat.add_zero, Nat.zero_div]
     show (x / 2 ^ s + 0 * 2 ^ (64 - s)) % BB = x / 2 ^ s
     rw [Nat.zero_mul, Nat.add_zero]
     exact Nat.mod_eq_of_lt (Nat.lt_of_le_of_lt (Nat.div_le_self _ _) hx)
   | cons y l =>
     rw [val]
     exact rs_alg (2 ^ s) (2 ^ (64 - s)) BB x y (val l) 0 (Nat.pow_pos (by decide)) (Nat.pow_pos (by decide)) (BB_split s (by omega)) hx
theorem val_drop {l : List Nat} (hW : W64 l) (k s : Nat) : val l / 2 ^ (64 * k + s) = val (l.drop k) / 2 ^ s := by
 have e : val l = val (l.take k) + BB ^ (l.take k).length * val (l.drop k) := by rw [← val_append, List.take_append_drop]
 have hl : val (l.take k) < BB ^ (l.take k).length := val_lt (hW.take k)
 rw [Nat.pow_add, ← Nat.div_div_eq_div_mul]
 congr 1
 have hb : 2 ^ (64 * k) = BB ^ k := by rw [Nat.pow_mul]; rfl
 rw [hb]
 rcases Nat.lt_or_ge l.length k with h | h
 ·rw [List.drop_eq_nil_of_le (by omega), val, Nat.div_eq_of_lt]
  exact Nat.lt_of_lt_of_le (val_lt hW) (Nat.pow_le_pow_right BB_pos (by omega))
 ·rw [List.length_take, Nat.min_eq_left h] at e hl
  rw [e, Nat.add_mul_div_left _ _ (Nat.pow_pos BB_pos), Nat.div_eq_of_lt hl, Nat.zero_add]
theorem val_lost {l : List Nat} (hW : W64 l) (k s : Nat) (hs : s ≤ 63) : val l % 2 ^ (64 * k + s) = 0 ↔ (val (l.take k) = 0 ∧ (l.drop k).getD 0 0 % 2 ^ s = 0) := by
 have e : val l = val (l.take k) + BB ^ (l.take k).length * val (l.drop k) := by rw [← val_append, List.take_append_drop]
 have hl : val (l.take k) < BB ^ (l.take k).length := val_lt (hW.take k)
 have hb : 2 ^ (64 * k) = BB ^ k := by rw [Nat.pow_mul]; rfl
 rcases Nat.lt_or_ge l.length k with h | h
 ·have hd : l.drop k = [] := List.drop_eq_nil_of_le (by omega)
  have ht : l.take k = l := List.take_of_length_le (by omega)
  rw [hd, ht]
  have hlt : val l < 2 ^ (64 * k + s) := by
   rw [Nat.pow_add, hb]
   have h1 := Nat.lt_of_lt_of_le (val_lt hW) (Nat.pow_le_pow_right BB_pos (show l.length ≤ k by omega))
   have h2 : 0 < 2 ^ s := Nat.pow_pos (by decide)
   exact Nat.lt_of_lt_of_le h1 (Nat.le_mul_of_pos_right _ h2)
  rw [Nat.mod_eq_of_lt hlt]
  simp
 ·rw [List.length_take, Nat.min_eq_left h] at e hl
  have hv : val (l.drop k) % 2 ^ s = (l.drop k).getD 0 0 % 2 ^ s := by
   cases l.drop k with
   | nil => simp [val]
   | cons x r =>
     rw [val, BB_split s (by omega), Nat.mul_assoc, Nat.add_mul_mod_self_left]
     rfl
  rw [← hv, e, Nat.pow_add, hb, Nat.mod_mul, Nat.add_mul_mod_self_left, Nat.mod_eq_of_lt hl, Nat.add_mul_div_left _ _ (Nat.pow_pos BB_pos), Nat.div_eq_of_lt hl, Nat.zero_add]
  have hp : 0 < BB ^ k := Nat.pow_pos BB_pos
  generalize val (l.drop k) % 2 ^ s = z
  constructor
  ·intro h0
   have h1 : val (l.take k) = 0 := by omega
   refine ⟨h1, ?_⟩
   rw [h1, Nat.zero_add] at h0
   rcases Nat.mul_eq_zero.1 h0 with h2 | h2
   ·omega
   ·exact h2
  ·rintro ⟨h1, h2⟩
   rw [h1, h2, Nat.mul_zero]
theorem val_set {l : List Nat} {k x y : Nat} (h : l[k]? = some x) (hxy : x ≤ y) : val (l.set k y) = val l + BB ^ k * (y - x) := by
 induction l generalizing k with
 | nil => simp at h
 | cons z l ih =>
   cases k with
   | zero =>
     simp at h
     subst h
     simp only [List.set_cons_zero, val, Nat.pow_zero, Nat.one_mul]
     omega
   | succ k =>
     have h' : l[k]? = some x := by simpa using h
     rw [List.set_cons_succ, val, val, ih h', Nat.mul_add, Nat.pow_succ, Nat.mul_comm (BB ^ k) BB, Nat.mul_assoc, Nat.add_assoc]
theorem W64.set {l : List Nat} (h : W64 l) {k y : Nat} (hy : y < BB) : W64 (l.set k y) := fun x hx => by
 rcases List.mem_or_eq_of_mem_set hx with h1 | h1
 ·exact h x h1
 ·rw [h1]; exact hy
theorem or_bit {x j : Nat} (h : x % 2 ^ (j + 1) = 0) : x ||| 2 ^ j = x + 2 ^ j := by
 obtain ⟨q, hq⟩ := Nat.dvd_of_mod_eq_zero h
 have h1 : (2 : Nat) ^ j < 2 ^ (j + 1) := by rw [Nat.pow_succ]; have := Nat.pow_pos (n := j) (show 0 < 2 by decide); omega
 rw [hq, Nat.two_pow_add_eq_or_of_lt h1]
theorem word_low {l : List Nat} (hW : W64 l) {i x : Nat} (hx : l[i / 64]? = some x) (h : val l % 2 ^ (i + 1) = 0) : x % 2 ^ (i % 64 + 1) = 0 := by
 rcases Nat.lt_or_ge (i % 64) 63 with h63 | h63
 ·have := (val_lost hW (i / 64) (i % 64 + 1) (by omega)).1 (by rw [show 64 * (i / 64) + (i % 64 + 1) = i + 1 by omega]; exact h)
  have e : (l.drop (i / 64)).getD 0 0 = x := by rw [List.getD, List.getElem?_drop, Nat.add_zero, hx]; rfl
  rw [e] at this
  exact this.2
 ·have := (val_lost hW (i / 64 + 1) 0 (by omega)).1 (by rw [show 64 * (i / 64 + 1) + 0 = i + 1 by omega]; exact h)
  have h0 := this.1
  have hlt : i / 64 < l.length := (List.getElem?_eq_some_iff.1 hx).1
  rw [val_take_succ hlt] at h0
  have e : l.getD (i / 64) 0 = x := by rw [List.getD, hx]; rfl
  rw [e] at h0
  have hp : 0 < BB ^ (i / 64) := Nat.pow_pos BB_pos
  have hx0 : x = 0 := by
   have h2 : BB ^ (i / 64) * x = 0 := by omega
   rcases Nat.mul_eq_zero.1 h2 with h3 | h3
   ·omega
   ·exact h3
  rw [hx0]; exact Nat.zero_mod _
theorem val_bit {l : List Nat} (hW : W64 l) {i x : Nat} (hx : l[i / 64]? = some x) (h : val l % 2 ^ (i + 1) = 0) : val (l.set (i / 64) (x ||| 2 ^ (i % 64))) = val l + 2 ^ i ∧ x ||| 2 ^ (i % 64) < BB := by
 have hb := or_bit (word_low hW hx h)
 have hx2 : x < BB := hW x (List.mem_of_getElem? hx)
 refine ⟨?_, ?_⟩
 ·rw [val_set (y := x ||| 2 ^ (i % 64)) hx (by rw [hb]; exact Nat.le_add_right _ _), hb, Nat.add_sub_cancel_left]
  congr 1
  have : BB ^ (i / 64) = 2 ^ (64 * (i / 64)) := by rw [Nat.pow_mul]; rfl
  rw [this, ← Nat.pow_add]
  congr 1
  omega
 ·have : BB = 2 ^ 64 := rfl
  rw [this] at hx2 ⊢
  exact Nat.or_lt_two_pow hx2 (Nat.pow_lt_pow_right (by decide) (by omega))
structure QS (a0 b : Nat) (k a Q : Nat) : Prop where
 lt : a < b * 2 ^ k
 sum : a0 = a + b * Q
 low : Q % 2 ^ k = 0
theorem QS.take {a0 b k a Q : Nat} (h : QS a0 b (k + 1) a Q) (hd : b * 2 ^ k ≤ a) : QS a0 b k (a - b * 2 ^ k) (Q + 2 ^ k) := by
 obtain ⟨h1, h2, h3⟩ := h
 refine ⟨?_, ?_, ?_⟩
 ·rw [Nat.pow_succ, ← Nat.mul_assoc] at h1; omega
 ·rw [Nat.mul_add]; omega
 ·have := Nat.mod_mod_of_dvd Q (Nat.pow_dvd_pow 2 (Nat.le_succ k))
  rw [h3, Nat.zero_mod] at this
  rw [Nat.add_mod_right]; exact this.symm
theorem QS.skip {a0 b k a Q : Nat} (h : QS a0 b (k + 1) a Q) (hd : a < b * 2 ^ k) : QS a0 b k a Q := by
 obtain ⟨h1, h2, h3⟩ := h
 have := Nat.mod_mod_of_dvd Q (Nat.pow_dvd_pow 2 (Nat.le_succ k))
 rw [h3, Nat.zero_mod] at this
 exact ⟨hd, h2, this.symm⟩
theorem QS.done {a0 b a Q : Nat} (h : QS a0 b 0 a Q) : a = a0 % b ∧ Q = a0 / b := by
 obtain ⟨h1, h2, h3⟩ := h
 rw [Nat.pow_zero, Nat.mul_one] at h1
 subst h2
 refine ⟨?_, ?_⟩
 ·rw [Nat.add_mul_mod_self_left, Nat.mod_eq_of_lt h1]
 ·rw [Nat.add_mul_div_left _ _ (by omega), Nat.div_eq_of_lt h1, Nat.zero_add]
theorem half_mul (b k : Nat) : b * 2 ^ (k + 1) / 2 = b * 2 ^ k := by rw [Nat.pow_succ, ← Nat.mul_assoc, Nat.mul_div_cancel _ (by decide)]
end Go.Proofs.YtlgencbldbpbdaaGreatDoor
namespace Go.Proofs.YtlgencbldbpbdaaGreatDoor
open Go.RowKit Fl
theorem owned_put {w : World} {base n g c j : Nat} {e : TypeId} {xs : List Value} (h : w.ownsRow base e 1 (.slice (some ⟨g, 0, none⟩) n c) n xs) (hj : j < n) (v : Value) :
  (w.setCell ⟨g, j, none⟩ v).ownsRow base e 1 (.slice (some ⟨g, 0, none⟩) n c) n (xs.set j v) := by
 refine ⟨by rw [List.length_set]; exact h.1, ?_⟩
 rcases h.2 with ⟨h1, -⟩ | ⟨g', cap, cur, h1, h2, h3, h4, h5, h6, h7⟩
 ·cases h1
 ·injection h1 with a1 a2 a3
  injection a1 with a1
  injection a1 with a1
  subst a1 a3
  refine Or.inr ⟨g, c, cur.setIfInBounds j v, rfl, h2, ?_, h4, h5, by rw [Array.size_setIfInBounds]; exact h6, ?_⟩
  ·unfold World.setCell
   simp [Array.getElem?_modify, h3]
  ·rw [Array.toList_setIfInBounds, List.take_set, h7]
theorem OU.cell {w : World} {B g c n : Nat} {l : List Nat} (h : OU w B (.slice (some ⟨g, 0, none⟩) n c) l) (hn : n = l.length) {j x : Nat} (hj : l[j]? = some x) : w.cell? ⟨g, j, none⟩ = some (.int .u64 (x : Int)) ∧ w.frozen? ⟨g, j, none⟩ = false := by
 subst hn
 have hl := (List.getElem?_eq_some_iff.1 hj).1
 refine ⟨?_, World.ownsRow.frozenAt h j⟩
 rw [World.ownsRow.cellAt h j (by omega), List.getElem?_map, hj]; rfl
theorem OU.put {w : World} {B g c n : Nat} {l : List Nat} (h : OU w B (.slice (some ⟨g, 0, none⟩) n c) l) (hn : n = l.length) {j : Nat} (hj : j < l.length) (x : Nat) : OU (w.setCell ⟨g, j, none⟩ (.int .u64 (x : Int))) B (.slice (some ⟨g, 0, none⟩) n c) (l.set j x) := by
 subst hn
 have := owned_put h hj (uv x)
 unfold OU
 rw [List.length_set, List.map_set]
 exact this
theorem OU.below {w w' : World} {B : Nat} {v : Value} {l : List Nat} (h : OU w B v l) (hb : Below w.heap.size w w') : OU w' B v l := by
 obtain ⟨h1, h2⟩ := h
 refine ⟨h1, ?_⟩
 rcases h2 with h2 | ⟨g, cap, cur, e1, e2, e3, e4⟩
 ·exact .inl h2
 ·have hg : g < w.heap.size := (Array.getElem?_eq_some_iff.1 e3).1
  exact .inr ⟨g, cap, cur, e1, e2, by rw [hb.block g hg]; exact e3, e4⟩
theorem NA.drop {w : World} {b o : Nat} {l : List Nat} (h : NA w b o l) (k : Nat) : NA w b (o + k) (l.drop k) := ⟨h.1, fun j x hj => by
 rw [List.getElem?_drop] at hj
 have := h.2 (k + j) x hj
 rwa [← Nat.add_assoc] at this⟩
end Go.Proofs.YtlgencbldbpbdaaGreatDoor
namespace Go.Proofs.YtlgencbldbpbdaaGreatDoor.Fl
def wd (z : Int) (i : Nat) : Int := z / (2 : Int) ^ (64 * i) % 18446744073709551616
def cy (a b : Int) (i : Nat) : Int := (a % (2 : Int) ^ (64 * i) + b % (2 : Int) ^ (64 * i)) / (2 : Int) ^ (64 * i)
end Go.Proofs.YtlgencbldbpbdaaGreatDoor.Fl
namespace Go.Proofs.YtlgencbldbpbdaaGreatDoor
open Go
section
variable {P : Program} {ops : Array Oper} {C : World → Prop} {G : FuncId → Array Value → Value → Prop} {Q : Act → Prop} {rest : List Oper} {a : Act}
variable {dst : Option Tmp} {ty : TypeId} {pos : String} {af : Array Edge} {gd : Option (Nat × Bool)}
theorem rel_move {x : Operand} {v : Value} (hv : a.eval x = v) (hw : Region.wanted ⟨dst, .move x, ty, pos, af, gd⟩ (yielded ops a.tmps) = true) (k : wpRel P ops C G Q rest (a.put dst v)) :
  wpRel P ops C G Q (⟨dst, .move x, ty, pos, af, gd⟩ :: rest) a :=
 rel_val hw (fun w _ => by subst hv; rfl) k
theorem rel_assign {x : Operand} {v : Value} (hv : a.eval x = v) (hw : Region.wanted ⟨dst, .assign x, ty, pos, af, gd⟩ (yielded ops a.tmps) = true) (k : wpRel P ops C G Q rest (a.put dst v)) :
  wpRel P ops C G Q (⟨dst, .assign x, ty, pos, af, gd⟩ :: rest) a :=
 rel_val hw (fun w _ => by subst hv; rfl) k
end
end Go.Proofs.YtlgencbldbpbdaaGreatDoor
