/- Looks: their cells, names of properties, and what is told of a look (printed by gen_st.py). -/
import Derived.Test.YtphoggimeaejnaaGreatDoorArith
import Derived.Below
import Derived.Deep.MidRow
import Derived.Laws.ResultCell
namespace Go.Proofs.YtphoggimeaejnaaGreatDoor
open Go.RowKit Fl

/-- a look's cells, by its whole numbers and its words -/
def lkC (g : Nat → Int) (f : Nat → Nat) : List Value := .int .i64 (g 0) :: .float .f64 (f 1) :: .float .f64 (f 2) :: .float .f64 (f 3) :: .int .i64 (g 4) :: .float .f64 (f 5) :: .int .i64 (g 6) :: .float .f64 (f 7) :: .int .i64 (g 8) :: .float .f64 (f 9) :: .int .i64 (g 10) :: .float .f64 (f 11) :: .int .i64 (g 12) :: .float .f64 (f 13) :: .int .i64 (g 14) :: .float .f64 (f 15) :: .int .i64 (g 16) :: .float .f64 (f 17) :: .int .i64 (g 18) :: .float .f64 (f 19) :: .int .i64 (g 20) :: .float .f64 (f 21) :: .int .i64 (g 22) :: .float .f64 (f 23) :: .int .i64 (g 24) :: .float .f64 (f 25) :: .int .i64 (g 26) :: .float .f64 (f 27) :: .int .i64 (g 28) :: .float .f64 (f 29) :: .int .i64 (g 30) :: .float .f64 (f 31) :: .float .f64 (f 32) :: .float .f64 (f 33) :: .int .i64 (g 34) :: .float .f64 (f 35) :: .int .i64 (g 36) :: .float .f64 (f 37) :: .float .f64 (f 38) :: .float .f64 (f 39) :: .float .f64 (f 40) :: .float .f64 (f 41) :: .float .f64 (f 42) :: .float .f64 (f 43) :: .float .f64 (f 44) :: .float .f64 (f 45) :: .float .f64 (f 46) :: .float .f64 (f 47) :: .float .f64 (f 48) :: .float .f64 (f 49) :: .float .f64 (f 50) :: .float .f64 (f 51) :: .float .f64 (f 52) :: .float .f64 (f 53) :: []
/-- which property a name is; 7: none -/
def K (s : ByteArray) : Nat := if s.toList = [115, 105, 122, 101] then 0 else if s.toList = [111, 112, 97, 99, 105, 116, 121] then 1 else if s.toList = [103, 114, 111, 119] then 2 else if s.toList = [115, 104, 114, 105, 110, 107] then 3 else if s.toList = [108, 101, 118, 101, 108] then 4 else if s.toList = [119, 105, 100, 116, 104] then 5 else if s.toList = [104, 101, 105, 103, 104, 116] then 6 else 7
structure PK (s : ByteArray) (k : Nat) : Prop where
  n0 : (s.toList == [115, 105, 122, 101]) = Nat.beq k 0
  n1 : (s.toList == [111, 112, 97, 99, 105, 116, 121]) = Nat.beq k 1
  n2 : (s.toList == [103, 114, 111, 119]) = Nat.beq k 2
  n3 : (s.toList == [115, 104, 114, 105, 110, 107]) = Nat.beq k 3
  n4 : (s.toList == [108, 101, 118, 101, 108]) = Nat.beq k 4
  n5 : (s.toList == [119, 105, 100, 116, 104]) = Nat.beq k 5
  n6 : (s.toList == [104, 101, 105, 103, 104, 116]) = Nat.beq k 6
theorem PK.of (s : ByteArray) : PK s (K s) := by
  unfold K
  by_cases h0 : s.toList = [115, 105, 122, 101]
  · rw [if_pos h0]
    exact ⟨by rw [h0]; rfl, by rw [h0]; rfl, by rw [h0]; rfl, by rw [h0]; rfl, by rw [h0]; rfl, by rw [h0]; rfl, by rw [h0]; rfl⟩
  by_cases h1 : s.toList = [111, 112, 97, 99, 105, 116, 121]
  · rw [if_neg h0, if_pos h1]
    exact ⟨by rw [h1]; rfl, by rw [h1]; rfl, by rw [h1]; rfl, by rw [h1]; rfl, by rw [h1]; rfl, by rw [h1]; rfl, by rw [h1]; rfl⟩
  by_cases h2 : s.toList = [103, 114, 111, 119]
  · rw [if_neg h0, if_neg h1, if_pos h2]
    exact ⟨by rw [h2]; rfl, by rw [h2]; rfl, by rw [h2]; rfl, by rw [h2]; rfl, by rw [h2]; rfl, by rw [h2]; rfl, by rw [h2]; rfl⟩
  by_cases h3 : s.toList = [115, 104, 114, 105, 110, 107]
  · rw [if_neg h0, if_neg h1, if_neg h2, if_pos h3]
    exact ⟨by rw [h3]; rfl, by rw [h3]; rfl, by rw [h3]; rfl, by rw [h3]; rfl, by rw [h3]; rfl, by rw [h3]; rfl, by rw [h3]; rfl⟩
  by_cases h4 : s.toList = [108, 101, 118, 101, 108]
  · rw [if_neg h0, if_neg h1, if_neg h2, if_neg h3, if_pos h4]
    exact ⟨by rw [h4]; rfl, by rw [h4]; rfl, by rw [h4]; rfl, by rw [h4]; rfl, by rw [h4]; rfl, by rw [h4]; rfl, by rw [h4]; rfl⟩
  by_cases h5 : s.toList = [119, 105, 100, 116, 104]
  · rw [if_neg h0, if_neg h1, if_neg h2, if_neg h3, if_neg h4, if_pos h5]
    exact ⟨by rw [h5]; rfl, by rw [h5]; rfl, by rw [h5]; rfl, by rw [h5]; rfl, by rw [h5]; rfl, by rw [h5]; rfl, by rw [h5]; rfl⟩
  by_cases h6 : s.toList = [104, 101, 105, 103, 104, 116]
  · rw [if_neg h0, if_neg h1, if_neg h2, if_neg h3, if_neg h4, if_neg h5, if_pos h6]
    exact ⟨by rw [h6]; rfl, by rw [h6]; rfl, by rw [h6]; rfl, by rw [h6]; rfl, by rw [h6]; rfl, by rw [h6]; rfl, by rw [h6]; rfl⟩
  rw [if_neg h0, if_neg h1, if_neg h2, if_neg h3, if_neg h4, if_neg h5, if_neg h6]
  exact ⟨beq_eq_false_iff_ne.2 h0, beq_eq_false_iff_ne.2 h1, beq_eq_false_iff_ne.2 h2, beq_eq_false_iff_ne.2 h3, beq_eq_false_iff_ne.2 h4, beq_eq_false_iff_ne.2 h5, beq_eq_false_iff_ne.2 h6⟩
theorem K_lt (s : ByteArray) : K s = 0 ∨ K s = 1 ∨ K s = 2 ∨ K s = 3 ∨ K s = 4 ∨ K s = 5 ∨ K s = 6 ∨ K s = 7 := by
  unfold K; repeat' split
  all_goals decide
/-- a number of a look by its property -/
def tell (k : Nat) (g : Nat → Int) (f : Nat → Nat) : Nat × Bool := match k with
  | 0 => (f 1, true)
  | 1 => (f 2, true)
  | 2 => (f 31, true)
  | 3 => (f 32, true)
  | 4 => (f 53, true)
  | 5 => match g 4 == 1 with
    | true => (f 3, true)
    | false => (0, false)
  | 6 => match g 6 == 1 with
    | true => (f 5, true)
    | false => (0, false)
  | _ => (0, false)
set_option maxRecDepth 100000 in
set_option maxHeartbeats 1000000 in
theorem c7_0 (s : ByteArray) (g : Nat → Int) (f : Nat → Nat) (w : World) (hk : PK s 0) : Calls Tryz.prog 7 #[.agg (lkC g f).toArray, .string s] w fun e w' => e = .returned (.tuple #[.float .f64 (f 1), .int .i64 0]) ∧ Below w.heap.size w w' := by
  have B1 := Lib.hid ((Below.refl w.heap.size w).alloc (Nat.le_refl _) (.cells (lkC g f).toArray 31))
  have n0 : (s.toList == [115, 105, 122, 101]) = true := hk.n0
  have n1 : (s.toList == [111, 112, 97, 99, 105, 116, 121]) = false := hk.n1
  have n2 : (s.toList == [103, 114, 111, 119]) = false := hk.n2
  have n3 : (s.toList == [115, 104, 114, 105, 110, 107]) = false := hk.n3
  have n4 : (s.toList == [108, 101, 118, 101, 108]) = false := hk.n4
  have n5 : (s.toList == [119, 105, 100, 116, 104]) = false := hk.n5
  have n6 : (s.toList == [104, 101, 105, 103, 104, 116]) = false := hk.n6
  clear hk
  unfold lkC at *
  go_enter Tryz.func7, Tryz.ntmps7
  go_wp2
  refine bodyPost_ret (results_tmp2 rfl _ _ _) rfl ?_
  exact ⟨rfl, B1.out⟩
set_option maxRecDepth 100000 in
set_option maxHeartbeats 1000000 in
theorem c7_1 (s : ByteArray) (g : Nat → Int) (f : Nat → Nat) (w : World) (hk : PK s 1) : Calls Tryz.prog 7 #[.agg (lkC g f).toArray, .string s] w fun e w' => e = .returned (.tuple #[.float .f64 (f 2), .int .i64 0]) ∧ Below w.heap.size w w' := by
  have B1 := Lib.hid ((Below.refl w.heap.size w).alloc (Nat.le_refl _) (.cells (lkC g f).toArray 31))
  have n0 : (s.toList == [115, 105, 122, 101]) = false := hk.n0
  have n1 : (s.toList == [111, 112, 97, 99, 105, 116, 121]) = true := hk.n1
  have n2 : (s.toList == [103, 114, 111, 119]) = false := hk.n2
  have n3 : (s.toList == [115, 104, 114, 105, 110, 107]) = false := hk.n3
  have n4 : (s.toList == [108, 101, 118, 101, 108]) = false := hk.n4
  have n5 : (s.toList == [119, 105, 100, 116, 104]) = false := hk.n5
  have n6 : (s.toList == [104, 101, 105, 103, 104, 116]) = false := hk.n6
  clear hk
  unfold lkC at *
  go_enter Tryz.func7, Tryz.ntmps7
  go_wp2
  refine bodyPost_ret (results_tmp2 rfl _ _ _) rfl ?_
  exact ⟨rfl, B1.out⟩
set_option maxRecDepth 100000 in
set_option maxHeartbeats 1000000 in
theorem c7_2 (s : ByteArray) (g : Nat → Int) (f : Nat → Nat) (w : World) (hk : PK s 2) : Calls Tryz.prog 7 #[.agg (lkC g f).toArray, .string s] w fun e w' => e = .returned (.tuple #[.float .f64 (f 31), .int .i64 0]) ∧ Below w.heap.size w w' := by
  have B1 := Lib.hid ((Below.refl w.heap.size w).alloc (Nat.le_refl _) (.cells (lkC g f).toArray 31))
  have n0 : (s.toList == [115, 105, 122, 101]) = false := hk.n0
  have n1 : (s.toList == [111, 112, 97, 99, 105, 116, 121]) = false := hk.n1
  have n2 : (s.toList == [103, 114, 111, 119]) = true := hk.n2
  have n3 : (s.toList == [115, 104, 114, 105, 110, 107]) = false := hk.n3
  have n4 : (s.toList == [108, 101, 118, 101, 108]) = false := hk.n4
  have n5 : (s.toList == [119, 105, 100, 116, 104]) = false := hk.n5
  have n6 : (s.toList == [104, 101, 105, 103, 104, 116]) = false := hk.n6
  clear hk
  unfold lkC at *
  go_enter Tryz.func7, Tryz.ntmps7
  go_wp2
  refine bodyPost_ret (results_tmp2 rfl _ _ _) rfl ?_
  exact ⟨rfl, B1.out⟩
set_option maxRecDepth 100000 in
set_option maxHeartbeats 1000000 in
theorem c7_3 (s : ByteArray) (g : Nat → Int) (f : Nat → Nat) (w : World) (hk : PK s 3) : Calls Tryz.prog 7 #[.agg (lkC g f).toArray, .string s] w fun e w' => e = .returned (.tuple #[.float .f64 (f 32), .int .i64 0]) ∧ Below w.heap.size w w' := by
  have B1 := Lib.hid ((Below.refl w.heap.size w).alloc (Nat.le_refl _) (.cells (lkC g f).toArray 31))
  have n0 : (s.toList == [115, 105, 122, 101]) = false := hk.n0
  have n1 : (s.toList == [111, 112, 97, 99, 105, 116, 121]) = false := hk.n1
  have n2 : (s.toList == [103, 114, 111, 119]) = false := hk.n2
  have n3 : (s.toList == [115, 104, 114, 105, 110, 107]) = true := hk.n3
  have n4 : (s.toList == [108, 101, 118, 101, 108]) = false := hk.n4
  have n5 : (s.toList == [119, 105, 100, 116, 104]) = false := hk.n5
  have n6 : (s.toList == [104, 101, 105, 103, 104, 116]) = false := hk.n6
  clear hk
  unfold lkC at *
  go_enter Tryz.func7, Tryz.ntmps7
  go_wp2
  refine bodyPost_ret (results_tmp2 rfl _ _ _) rfl ?_
  exact ⟨rfl, B1.out⟩
set_option maxRecDepth 100000 in
set_option maxHeartbeats 1000000 in
theorem c7_4 (s : ByteArray) (g : Nat → Int) (f : Nat → Nat) (w : World) (hk : PK s 4) : Calls Tryz.prog 7 #[.agg (lkC g f).toArray, .string s] w fun e w' => e = .returned (.tuple #[.float .f64 (f 53), .int .i64 0]) ∧ Below w.heap.size w w' := by
  have B1 := Lib.hid ((Below.refl w.heap.size w).alloc (Nat.le_refl _) (.cells (lkC g f).toArray 31))
  have n0 : (s.toList == [115, 105, 122, 101]) = false := hk.n0
  have n1 : (s.toList == [111, 112, 97, 99, 105, 116, 121]) = false := hk.n1
  have n2 : (s.toList == [103, 114, 111, 119]) = false := hk.n2
  have n3 : (s.toList == [115, 104, 114, 105, 110, 107]) = false := hk.n3
  have n4 : (s.toList == [108, 101, 118, 101, 108]) = true := hk.n4
  have n5 : (s.toList == [119, 105, 100, 116, 104]) = false := hk.n5
  have n6 : (s.toList == [104, 101, 105, 103, 104, 116]) = false := hk.n6
  clear hk
  unfold lkC at *
  go_enter Tryz.func7, Tryz.ntmps7
  go_wp2
  refine bodyPost_ret (results_tmp2 rfl _ _ _) rfl ?_
  exact ⟨rfl, B1.out⟩
set_option maxRecDepth 100000 in
set_option maxHeartbeats 1000000 in
theorem c7_5t (s : ByteArray) (g : Nat → Int) (f : Nat → Nat) (w : World) (hk : PK s 5) (hb : (g 4 == 1) = true) : Calls Tryz.prog 7 #[.agg (lkC g f).toArray, .string s] w fun e w' => e = .returned (.tuple #[.float .f64 (f 3), .int .i64 0]) ∧ Below w.heap.size w w' := by
  have B1 := Lib.hid ((Below.refl w.heap.size w).alloc (Nat.le_refl _) (.cells (lkC g f).toArray 31))
  have n0 : (s.toList == [115, 105, 122, 101]) = false := hk.n0
  have n1 : (s.toList == [111, 112, 97, 99, 105, 116, 121]) = false := hk.n1
  have n2 : (s.toList == [103, 114, 111, 119]) = false := hk.n2
  have n3 : (s.toList == [115, 104, 114, 105, 110, 107]) = false := hk.n3
  have n4 : (s.toList == [108, 101, 118, 101, 108]) = false := hk.n4
  have n5 : (s.toList == [119, 105, 100, 116, 104]) = true := hk.n5
  have n6 : (s.toList == [104, 101, 105, 103, 104, 116]) = false := hk.n6
  clear hk
  unfold lkC at *
  go_enter Tryz.func7, Tryz.ntmps7
  go_wp2
  refine bodyPost_ret (results_tmp2 rfl _ _ _) rfl ?_
  exact ⟨rfl, B1.out⟩
set_option maxRecDepth 100000 in
set_option maxHeartbeats 1000000 in
theorem c7_5f (s : ByteArray) (g : Nat → Int) (f : Nat → Nat) (w : World) (hk : PK s 5) (hb : (g 4 == 1) = false) : Calls Tryz.prog 7 #[.agg (lkC g f).toArray, .string s] w fun e w' => e = .returned (.tuple #[.float .f64 (0), .int .i64 1]) ∧ Below w.heap.size w w' := by
  have B1 := Lib.hid ((Below.refl w.heap.size w).alloc (Nat.le_refl _) (.cells (lkC g f).toArray 31))
  have n0 : (s.toList == [115, 105, 122, 101]) = false := hk.n0
  have n1 : (s.toList == [111, 112, 97, 99, 105, 116, 121]) = false := hk.n1
  have n2 : (s.toList == [103, 114, 111, 119]) = false := hk.n2
  have n3 : (s.toList == [115, 104, 114, 105, 110, 107]) = false := hk.n3
  have n4 : (s.toList == [108, 101, 118, 101, 108]) = false := hk.n4
  have n5 : (s.toList == [119, 105, 100, 116, 104]) = true := hk.n5
  have n6 : (s.toList == [104, 101, 105, 103, 104, 116]) = false := hk.n6
  clear hk
  unfold lkC at *
  go_enter Tryz.func7, Tryz.ntmps7
  go_wp2
  refine bodyPost_ret (results_tmp2 rfl _ _ _) rfl ?_
  exact ⟨rfl, B1.out⟩
set_option maxRecDepth 100000 in
set_option maxHeartbeats 1000000 in
theorem c7_6t (s : ByteArray) (g : Nat → Int) (f : Nat → Nat) (w : World) (hk : PK s 6) (hb : (g 6 == 1) = true) : Calls Tryz.prog 7 #[.agg (lkC g f).toArray, .string s] w fun e w' => e = .returned (.tuple #[.float .f64 (f 5), .int .i64 0]) ∧ Below w.heap.size w w' := by
  have B1 := Lib.hid ((Below.refl w.heap.size w).alloc (Nat.le_refl _) (.cells (lkC g f).toArray 31))
  have n0 : (s.toList == [115, 105, 122, 101]) = false := hk.n0
  have n1 : (s.toList == [111, 112, 97, 99, 105, 116, 121]) = false := hk.n1
  have n2 : (s.toList == [103, 114, 111, 119]) = false := hk.n2
  have n3 : (s.toList == [115, 104, 114, 105, 110, 107]) = false := hk.n3
  have n4 : (s.toList == [108, 101, 118, 101, 108]) = false := hk.n4
  have n5 : (s.toList == [119, 105, 100, 116, 104]) = false := hk.n5
  have n6 : (s.toList == [104, 101, 105, 103, 104, 116]) = true := hk.n6
  clear hk
  unfold lkC at *
  go_enter Tryz.func7, Tryz.ntmps7
  go_wp2
  refine bodyPost_ret (results_tmp2 rfl _ _ _) rfl ?_
  exact ⟨rfl, B1.out⟩
set_option maxRecDepth 100000 in
set_option maxHeartbeats 1000000 in
theorem c7_6f (s : ByteArray) (g : Nat → Int) (f : Nat → Nat) (w : World) (hk : PK s 6) (hb : (g 6 == 1) = false) : Calls Tryz.prog 7 #[.agg (lkC g f).toArray, .string s] w fun e w' => e = .returned (.tuple #[.float .f64 (0), .int .i64 1]) ∧ Below w.heap.size w w' := by
  have B1 := Lib.hid ((Below.refl w.heap.size w).alloc (Nat.le_refl _) (.cells (lkC g f).toArray 31))
  have n0 : (s.toList == [115, 105, 122, 101]) = false := hk.n0
  have n1 : (s.toList == [111, 112, 97, 99, 105, 116, 121]) = false := hk.n1
  have n2 : (s.toList == [103, 114, 111, 119]) = false := hk.n2
  have n3 : (s.toList == [115, 104, 114, 105, 110, 107]) = false := hk.n3
  have n4 : (s.toList == [108, 101, 118, 101, 108]) = false := hk.n4
  have n5 : (s.toList == [119, 105, 100, 116, 104]) = false := hk.n5
  have n6 : (s.toList == [104, 101, 105, 103, 104, 116]) = true := hk.n6
  clear hk
  unfold lkC at *
  go_enter Tryz.func7, Tryz.ntmps7
  go_wp2
  refine bodyPost_ret (results_tmp2 rfl _ _ _) rfl ?_
  exact ⟨rfl, B1.out⟩
set_option maxRecDepth 100000 in
set_option maxHeartbeats 1000000 in
theorem c7_7 (s : ByteArray) (g : Nat → Int) (f : Nat → Nat) (w : World) (hk : PK s 7) : Calls Tryz.prog 7 #[.agg (lkC g f).toArray, .string s] w fun e w' => e = .returned (.tuple #[.float .f64 (0), .int .i64 1]) ∧ Below w.heap.size w w' := by
  have B1 := Lib.hid ((Below.refl w.heap.size w).alloc (Nat.le_refl _) (.cells (lkC g f).toArray 31))
  have n0 : (s.toList == [115, 105, 122, 101]) = false := hk.n0
  have n1 : (s.toList == [111, 112, 97, 99, 105, 116, 121]) = false := hk.n1
  have n2 : (s.toList == [103, 114, 111, 119]) = false := hk.n2
  have n3 : (s.toList == [115, 104, 114, 105, 110, 107]) = false := hk.n3
  have n4 : (s.toList == [108, 101, 118, 101, 108]) = false := hk.n4
  have n5 : (s.toList == [119, 105, 100, 116, 104]) = false := hk.n5
  have n6 : (s.toList == [104, 101, 105, 103, 104, 116]) = false := hk.n6
  clear hk
  unfold lkC at *
  go_enter Tryz.func7, Tryz.ntmps7
  go_wp2
  refine bodyPost_ret (results_tmp2 rfl _ _ _) rfl ?_
  exact ⟨rfl, B1.out⟩
theorem c7 (s : ByteArray) (g : Nat → Int) (f : Nat → Nat) (w : World) : Calls Tryz.prog 7 #[.agg (lkC g f).toArray, .string s] w fun e w' => e = .returned (.tuple #[.float .f64 (tell (K s) g f).1, match (tell (K s) g f).2 with | true => .int .i64 0 | false => .int .i64 1]) ∧ Below w.heap.size w w' := by
  have hk := PK.of s
  rcases K_lt s with h | h | h | h | h | h | h | h <;> rw [h] at hk ⊢
  · exact c7_0 s g f w hk
  · exact c7_1 s g f w hk
  · exact c7_2 s g f w hk
  · exact c7_3 s g f w hk
  · exact c7_4 s g f w hk
  · unfold tell
    cases hb : g 4 == 1
    · exact c7_5f s g f w hk hb
    · exact c7_5t s g f w hk hb
  · unfold tell
    cases hb : g 6 == 1
    · exact c7_6f s g f w hk hb
    · exact c7_6t s g f w hk hb
  · exact c7_7 s g f w hk
set_option maxRecDepth 100000 in
set_option maxHeartbeats 1000000 in
theorem c8_0 (s : ByteArray) (g : Nat → Int) (f : Nat → Nat) (w : World) (hk : PK s 0) : Calls Tryz.prog 8 #[.agg (lkC g f).toArray, .string s] w fun e w' => e = .returned (.tuple #[.float .f64 (f 1), .bool true]) ∧ Below w.heap.size w w' := by
  have B1 := Lib.hid ((Below.refl w.heap.size w).alloc (Nat.le_refl _) (.cells (lkC g f).toArray 31))
  have n0 : (s.toList == [115, 105, 122, 101]) = true := hk.n0
  have n1 : (s.toList == [111, 112, 97, 99, 105, 116, 121]) = false := hk.n1
  have n2 : (s.toList == [103, 114, 111, 119]) = false := hk.n2
  have n3 : (s.toList == [115, 104, 114, 105, 110, 107]) = false := hk.n3
  have n4 : (s.toList == [108, 101, 118, 101, 108]) = false := hk.n4
  have n5 : (s.toList == [119, 105, 100, 116, 104]) = false := hk.n5
  have n6 : (s.toList == [104, 101, 105, 103, 104, 116]) = false := hk.n6
  clear hk
  unfold lkC at *
  go_enter Tryz.func8, Tryz.ntmps8
  go_wp2
  refine bodyPost_ret (results_tmp2 rfl _ _ _) rfl ?_
  exact ⟨rfl, B1.out⟩
set_option maxRecDepth 100000 in
set_option maxHeartbeats 1000000 in
theorem c8_1 (s : ByteArray) (g : Nat → Int) (f : Nat → Nat) (w : World) (hk : PK s 1) : Calls Tryz.prog 8 #[.agg (lkC g f).toArray, .string s] w fun e w' => e = .returned (.tuple #[.float .f64 (f 2), .bool true]) ∧ Below w.heap.size w w' := by
  have B1 := Lib.hid ((Below.refl w.heap.size w).alloc (Nat.le_refl _) (.cells (lkC g f).toArray 31))
  have n0 : (s.toList == [115, 105, 122, 101]) = false := hk.n0
  have n1 : (s.toList == [111, 112, 97, 99, 105, 116, 121]) = true := hk.n1
  have n2 : (s.toList == [103, 114, 111, 119]) = false := hk.n2
  have n3 : (s.toList == [115, 104, 114, 105, 110, 107]) = false := hk.n3
  have n4 : (s.toList == [108, 101, 118, 101, 108]) = false := hk.n4
  have n5 : (s.toList == [119, 105, 100, 116, 104]) = false := hk.n5
  have n6 : (s.toList == [104, 101, 105, 103, 104, 116]) = false := hk.n6
  clear hk
  unfold lkC at *
  go_enter Tryz.func8, Tryz.ntmps8
  go_wp2
  refine bodyPost_ret (results_tmp2 rfl _ _ _) rfl ?_
  exact ⟨rfl, B1.out⟩
set_option maxRecDepth 100000 in
set_option maxHeartbeats 1000000 in
theorem c8_2 (s : ByteArray) (g : Nat → Int) (f : Nat → Nat) (w : World) (hk : PK s 2) : Calls Tryz.prog 8 #[.agg (lkC g f).toArray, .string s] w fun e w' => e = .returned (.tuple #[.float .f64 (f 31), .bool true]) ∧ Below w.heap.size w w' := by
  have B1 := Lib.hid ((Below.refl w.heap.size w).alloc (Nat.le_refl _) (.cells (lkC g f).toArray 31))
  have n0 : (s.toList == [115, 105, 122, 101]) = false := hk.n0
  have n1 : (s.toList == [111, 112, 97, 99, 105, 116, 121]) = false := hk.n1
  have n2 : (s.toList == [103, 114, 111, 119]) = true := hk.n2
  have n3 : (s.toList == [115, 104, 114, 105, 110, 107]) = false := hk.n3
  have n4 : (s.toList == [108, 101, 118, 101, 108]) = false := hk.n4
  have n5 : (s.toList == [119, 105, 100, 116, 104]) = false := hk.n5
  have n6 : (s.toList == [104, 101, 105, 103, 104, 116]) = false := hk.n6
  clear hk
  unfold lkC at *
  go_enter Tryz.func8, Tryz.ntmps8
  go_wp2
  refine bodyPost_ret (results_tmp2 rfl _ _ _) rfl ?_
  exact ⟨rfl, B1.out⟩
set_option maxRecDepth 100000 in
set_option maxHeartbeats 1000000 in
theorem c8_3 (s : ByteArray) (g : Nat → Int) (f : Nat → Nat) (w : World) (hk : PK s 3) : Calls Tryz.prog 8 #[.agg (lkC g f).toArray, .string s] w fun e w' => e = .returned (.tuple #[.float .f64 (f 32), .bool true]) ∧ Below w.heap.size w w' := by
  have B1 := Lib.hid ((Below.refl w.heap.size w).alloc (Nat.le_refl _) (.cells (lkC g f).toArray 31))
  have n0 : (s.toList == [115, 105, 122, 101]) = false := hk.n0
  have n1 : (s.toList == [111, 112, 97, 99, 105, 116, 121]) = false := hk.n1
  have n2 : (s.toList == [103, 114, 111, 119]) = false := hk.n2
  have n3 : (s.toList == [115, 104, 114, 105, 110, 107]) = true := hk.n3
  have n4 : (s.toList == [108, 101, 118, 101, 108]) = false := hk.n4
  have n5 : (s.toList == [119, 105, 100, 116, 104]) = false := hk.n5
  have n6 : (s.toList == [104, 101, 105, 103, 104, 116]) = false := hk.n6
  clear hk
  unfold lkC at *
  go_enter Tryz.func8, Tryz.ntmps8
  go_wp2
  refine bodyPost_ret (results_tmp2 rfl _ _ _) rfl ?_
  exact ⟨rfl, B1.out⟩
set_option maxRecDepth 100000 in
set_option maxHeartbeats 1000000 in
theorem c8_4 (s : ByteArray) (g : Nat → Int) (f : Nat → Nat) (w : World) (hk : PK s 4) : Calls Tryz.prog 8 #[.agg (lkC g f).toArray, .string s] w fun e w' => e = .returned (.tuple #[.float .f64 (f 53), .bool true]) ∧ Below w.heap.size w w' := by
  have B1 := Lib.hid ((Below.refl w.heap.size w).alloc (Nat.le_refl _) (.cells (lkC g f).toArray 31))
  have n0 : (s.toList == [115, 105, 122, 101]) = false := hk.n0
  have n1 : (s.toList == [111, 112, 97, 99, 105, 116, 121]) = false := hk.n1
  have n2 : (s.toList == [103, 114, 111, 119]) = false := hk.n2
  have n3 : (s.toList == [115, 104, 114, 105, 110, 107]) = false := hk.n3
  have n4 : (s.toList == [108, 101, 118, 101, 108]) = true := hk.n4
  have n5 : (s.toList == [119, 105, 100, 116, 104]) = false := hk.n5
  have n6 : (s.toList == [104, 101, 105, 103, 104, 116]) = false := hk.n6
  clear hk
  unfold lkC at *
  go_enter Tryz.func8, Tryz.ntmps8
  go_wp2
  refine bodyPost_ret (results_tmp2 rfl _ _ _) rfl ?_
  exact ⟨rfl, B1.out⟩
set_option maxRecDepth 100000 in
set_option maxHeartbeats 1000000 in
theorem c8_5t (s : ByteArray) (g : Nat → Int) (f : Nat → Nat) (w : World) (hk : PK s 5) (hb : (g 4 == 1) = true) : Calls Tryz.prog 8 #[.agg (lkC g f).toArray, .string s] w fun e w' => e = .returned (.tuple #[.float .f64 (f 3), .bool true]) ∧ Below w.heap.size w w' := by
  have B1 := Lib.hid ((Below.refl w.heap.size w).alloc (Nat.le_refl _) (.cells (lkC g f).toArray 31))
  have n0 : (s.toList == [115, 105, 122, 101]) = false := hk.n0
  have n1 : (s.toList == [111, 112, 97, 99, 105, 116, 121]) = false := hk.n1
  have n2 : (s.toList == [103, 114, 111, 119]) = false := hk.n2
  have n3 : (s.toList == [115, 104, 114, 105, 110, 107]) = false := hk.n3
  have n4 : (s.toList == [108, 101, 118, 101, 108]) = false := hk.n4
  have n5 : (s.toList == [119, 105, 100, 116, 104]) = true := hk.n5
  have n6 : (s.toList == [104, 101, 105, 103, 104, 116]) = false := hk.n6
  clear hk
  unfold lkC at *
  go_enter Tryz.func8, Tryz.ntmps8
  go_wp2
  refine bodyPost_ret (results_tmp2 rfl _ _ _) rfl ?_
  exact ⟨rfl, B1.out⟩
set_option maxRecDepth 100000 in
set_option maxHeartbeats 1000000 in
theorem c8_5f (s : ByteArray) (g : Nat → Int) (f : Nat → Nat) (w : World) (hk : PK s 5) (hb : (g 4 == 1) = false) : Calls Tryz.prog 8 #[.agg (lkC g f).toArray, .string s] w fun e w' => e = .returned (.tuple #[.float .f64 (0), .bool false]) ∧ Below w.heap.size w w' := by
  have B1 := Lib.hid ((Below.refl w.heap.size w).alloc (Nat.le_refl _) (.cells (lkC g f).toArray 31))
  have n0 : (s.toList == [115, 105, 122, 101]) = false := hk.n0
  have n1 : (s.toList == [111, 112, 97, 99, 105, 116, 121]) = false := hk.n1
  have n2 : (s.toList == [103, 114, 111, 119]) = false := hk.n2
  have n3 : (s.toList == [115, 104, 114, 105, 110, 107]) = false := hk.n3
  have n4 : (s.toList == [108, 101, 118, 101, 108]) = false := hk.n4
  have n5 : (s.toList == [119, 105, 100, 116, 104]) = true := hk.n5
  have n6 : (s.toList == [104, 101, 105, 103, 104, 116]) = false := hk.n6
  clear hk
  unfold lkC at *
  go_enter Tryz.func8, Tryz.ntmps8
  go_wp2
  refine bodyPost_ret (results_tmp2 rfl _ _ _) rfl ?_
  exact ⟨rfl, B1.out⟩
set_option maxRecDepth 100000 in
set_option maxHeartbeats 1000000 in
theorem c8_6t (s : ByteArray) (g : Nat → Int) (f : Nat → Nat) (w : World) (hk : PK s 6) (hb : (g 6 == 1) = true) : Calls Tryz.prog 8 #[.agg (lkC g f).toArray, .string s] w fun e w' => e = .returned (.tuple #[.float .f64 (f 5), .bool true]) ∧ Below w.heap.size w w' := by
  have B1 := Lib.hid ((Below.refl w.heap.size w).alloc (Nat.le_refl _) (.cells (lkC g f).toArray 31))
  have n0 : (s.toList == [115, 105, 122, 101]) = false := hk.n0
  have n1 : (s.toList == [111, 112, 97, 99, 105, 116, 121]) = false := hk.n1
  have n2 : (s.toList == [103, 114, 111, 119]) = false := hk.n2
  have n3 : (s.toList == [115, 104, 114, 105, 110, 107]) = false := hk.n3
  have n4 : (s.toList == [108, 101, 118, 101, 108]) = false := hk.n4
  have n5 : (s.toList == [119, 105, 100, 116, 104]) = false := hk.n5
  have n6 : (s.toList == [104, 101, 105, 103, 104, 116]) = true := hk.n6
  clear hk
  unfold lkC at *
  go_enter Tryz.func8, Tryz.ntmps8
  go_wp2
  refine bodyPost_ret (results_tmp2 rfl _ _ _) rfl ?_
  exact ⟨rfl, B1.out⟩
set_option maxRecDepth 100000 in
set_option maxHeartbeats 1000000 in
theorem c8_6f (s : ByteArray) (g : Nat → Int) (f : Nat → Nat) (w : World) (hk : PK s 6) (hb : (g 6 == 1) = false) : Calls Tryz.prog 8 #[.agg (lkC g f).toArray, .string s] w fun e w' => e = .returned (.tuple #[.float .f64 (0), .bool false]) ∧ Below w.heap.size w w' := by
  have B1 := Lib.hid ((Below.refl w.heap.size w).alloc (Nat.le_refl _) (.cells (lkC g f).toArray 31))
  have n0 : (s.toList == [115, 105, 122, 101]) = false := hk.n0
  have n1 : (s.toList == [111, 112, 97, 99, 105, 116, 121]) = false := hk.n1
  have n2 : (s.toList == [103, 114, 111, 119]) = false := hk.n2
  have n3 : (s.toList == [115, 104, 114, 105, 110, 107]) = false := hk.n3
  have n4 : (s.toList == [108, 101, 118, 101, 108]) = false := hk.n4
  have n5 : (s.toList == [119, 105, 100, 116, 104]) = false := hk.n5
  have n6 : (s.toList == [104, 101, 105, 103, 104, 116]) = true := hk.n6
  clear hk
  unfold lkC at *
  go_enter Tryz.func8, Tryz.ntmps8
  go_wp2
  refine bodyPost_ret (results_tmp2 rfl _ _ _) rfl ?_
  exact ⟨rfl, B1.out⟩
set_option maxRecDepth 100000 in
set_option maxHeartbeats 1000000 in
theorem c8_7 (s : ByteArray) (g : Nat → Int) (f : Nat → Nat) (w : World) (hk : PK s 7) : Calls Tryz.prog 8 #[.agg (lkC g f).toArray, .string s] w fun e w' => e = .returned (.tuple #[.float .f64 (0), .bool false]) ∧ Below w.heap.size w w' := by
  have B1 := Lib.hid ((Below.refl w.heap.size w).alloc (Nat.le_refl _) (.cells (lkC g f).toArray 31))
  have n0 : (s.toList == [115, 105, 122, 101]) = false := hk.n0
  have n1 : (s.toList == [111, 112, 97, 99, 105, 116, 121]) = false := hk.n1
  have n2 : (s.toList == [103, 114, 111, 119]) = false := hk.n2
  have n3 : (s.toList == [115, 104, 114, 105, 110, 107]) = false := hk.n3
  have n4 : (s.toList == [108, 101, 118, 101, 108]) = false := hk.n4
  have n5 : (s.toList == [119, 105, 100, 116, 104]) = false := hk.n5
  have n6 : (s.toList == [104, 101, 105, 103, 104, 116]) = false := hk.n6
  clear hk
  unfold lkC at *
  go_enter Tryz.func8, Tryz.ntmps8
  go_wp2
  refine bodyPost_ret (results_tmp2 rfl _ _ _) rfl ?_
  exact ⟨rfl, B1.out⟩
theorem c8 (s : ByteArray) (g : Nat → Int) (f : Nat → Nat) (w : World) : Calls Tryz.prog 8 #[.agg (lkC g f).toArray, .string s] w fun e w' => e = .returned (.tuple #[.float .f64 (tell (K s) g f).1, match (tell (K s) g f).2 with | true => .bool true | false => .bool false]) ∧ Below w.heap.size w w' := by
  have hk := PK.of s
  rcases K_lt s with h | h | h | h | h | h | h | h <;> rw [h] at hk ⊢
  · exact c8_0 s g f w hk
  · exact c8_1 s g f w hk
  · exact c8_2 s g f w hk
  · exact c8_3 s g f w hk
  · exact c8_4 s g f w hk
  · unfold tell
    cases hb : g 4 == 1
    · exact c8_5f s g f w hk hb
    · exact c8_5t s g f w hk hb
  · unfold tell
    cases hb : g 6 == 1
    · exact c8_6f s g f w hk hb
    · exact c8_6t s g f w hk hb
  · exact c8_7 s g f w hk
end Go.Proofs.YtphoggimeaejnaaGreatDoor

