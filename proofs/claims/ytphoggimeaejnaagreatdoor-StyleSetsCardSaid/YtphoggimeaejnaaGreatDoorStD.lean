/- With and Set of any property, by places (printed by gen_st2.py). -/
import Derived.Test.YtphoggimeaejnaaGreatDoorStC
namespace Go.Proofs.YtphoggimeaejnaaGreatDoor
open Go.RowKit Fl

/-- the places of a look in which a property is put -/
def putP (k x : Nat) (f : Nat → Nat) (i : Nat) : Int := if k < 7 then (if i = cellK k then setV k x else pl (f i)) else 0
def putG (k : Nat) (g : Nat → Int) : Nat → Int := if k < 7 then setG k g else fun _ => 0
/-- what With and Set tell -/
def PutR (k x : Nat) (g : Nat → Int) (f : Nat → Nat) (ok no : Value) (e : Ending) : Prop :=
  ∃ f', e = .returned (.tuple #[.agg (lkC (putG k g) f').toArray, if k < 7 then ok else no]) ∧ (∀ i, pl (f' i) = putP k x f i) ∧ ∀ i, U (f' i)
theorem put_of {k x : Nat} {g : Nat → Int} {f : Nat → Nat} {ok no : Value} {e : Ending} (hk : k < 7) (hf : ∀ i, U (f i)) (h : ∃ r, RV r (setV k x) ∧ e = .returned (.tuple #[.agg (lkC (setG k g) (upd f (cellK k) r)).toArray, ok])) : PutR k x g f ok no e := by
  obtain ⟨r, ⟨hr, hp⟩, rfl⟩ := h
  refine ⟨upd f (cellK k) r, by rw [if_pos hk]; unfold putG; rw [if_pos hk], fun i => ?_, fun i => ?_⟩
  · unfold putP upd
    rw [if_pos hk]
    split
    · exact hp
    · rfl
  · unfold upd
    split
    · exact hr
    · exact hf i
theorem put_no {x : Nat} {g : Nat → Int} {f : Nat → Nat} {ok no : Value} {e : Ending} (h : e = .returned (.tuple #[.agg Z54, no])) : PutR 7 x g f ok no e := by
  subst h
  exact ⟨fun _ => 0, rfl, fun i => pl_0, fun i => U_0⟩
set_option maxRecDepth 100000 in
set_option maxHeartbeats 1000000 in
theorem c10_0 (s : ByteArray) (g : Nat → Int) (f : Nat → Nat) (x : Nat) (w : World) (hk : PK s 0) (hx : U x) : Calls Tryz.prog 10 #[.agg (lkC g f).toArray, .string s, .float .f64 x] w fun e w' => (∃ r, RV r (setV 0 x) ∧ e = .returned (.tuple #[.agg (lkC (setG 0 g) (upd f 1 r)).toArray, .int .i64 0])) ∧ Below w.heap.size w w' := by
  have n0 : (s.toList == [115, 105, 122, 101]) = true := hk.n0
  have n1 : (s.toList == [111, 112, 97, 99, 105, 116, 121]) = false := hk.n1
  have n2 : (s.toList == [103, 114, 111, 119]) = false := hk.n2
  have n3 : (s.toList == [115, 104, 114, 105, 110, 107]) = false := hk.n3
  have n4 : (s.toList == [108, 101, 118, 101, 108]) = false := hk.n4
  have n5 : (s.toList == [119, 105, 100, 116, 104]) = false := hk.n5
  have n6 : (s.toList == [104, 101, 105, 103, 104, 116]) = false := hk.n6
  have F := Lib.hid (prep w g f)
  have SZ := Lib.hid size31
  have h21 := Lib.hid fun w => c21_0 s g f x w hk hx
  clear hk hx
  go_enter Tryz.func10, Tryz.ntmps10
  go_upto_region 1 with fail
  obtain ⟨W1, hW1⟩ : ∃ W1, W1 = (w.alloc (.cells (lkC g f).toArray 31)).alloc (.cells Z54 31) := ⟨_, rfl⟩
  rw [← hW1] at F
  show Code.wp _ _ _ _ ((w.alloc (.cells (lkC g f).toArray 31)).alloc (.cells Z54 31))
  rw [← hW1]
  clear hW1
  go_wp2_with (first
    | (go_at_call 21; refine (h21.out _).mono ?_; rintro e w2 ⟨⟨r, hr, rfl⟩, hb⟩; have F0 := Lib.hid (F.out.below hb); replace hr := Lib.hid hr; clear hb)
    | (refine wpList_load_mid rfl 31 (.tmp 3) rfl w.heap.size 0 rfl (lkC g f) _ F.out.R Tryz.underlying31 rfl SZ.out ?_)
    | (refine wpList_store_mid rfl 31 (.tmp 6) (.tmp 20) rfl (w.heap.size + 1) 0 (lkC (setG 0 g) (upd f 1 r)).toArray rfl rfl F0.out.T2 SZ.out (lk_one _ _) ?_))
  refine bodyPost_ret (ret_row2 Tryz.prog (p := 6) (u := 7) rfl rfl rfl (lkC (setG 0 g) (upd f 1 r)) F0.out.T2 Tryz.underlying31 rfl SZ.out) rfl ?_
  exact ⟨⟨r, hr.out, rfl⟩, below_setCells F0.out.B (by omega) 0 _⟩
set_option maxRecDepth 100000 in
set_option maxHeartbeats 1000000 in
theorem c10_1 (s : ByteArray) (g : Nat → Int) (f : Nat → Nat) (x : Nat) (w : World) (hk : PK s 1) (hx : U x) : Calls Tryz.prog 10 #[.agg (lkC g f).toArray, .string s, .float .f64 x] w fun e w' => (∃ r, RV r (setV 1 x) ∧ e = .returned (.tuple #[.agg (lkC (setG 1 g) (upd f 2 r)).toArray, .int .i64 0])) ∧ Below w.heap.size w w' := by
  have n0 : (s.toList == [115, 105, 122, 101]) = false := hk.n0
  have n1 : (s.toList == [111, 112, 97, 99, 105, 116, 121]) = true := hk.n1
  have n2 : (s.toList == [103, 114, 111, 119]) = false := hk.n2
  have n3 : (s.toList == [115, 104, 114, 105, 110, 107]) = false := hk.n3
  have n4 : (s.toList == [108, 101, 118, 101, 108]) = false := hk.n4
  have n5 : (s.toList == [119, 105, 100, 116, 104]) = false := hk.n5
  have n6 : (s.toList == [104, 101, 105, 103, 104, 116]) = false := hk.n6
  have F := Lib.hid (prep w g f)
  have SZ := Lib.hid size31
  have h21 := Lib.hid fun w => c21_1 s g f x w hk hx
  clear hk hx
  go_enter Tryz.func10, Tryz.ntmps10
  go_upto_region 1 with fail
  obtain ⟨W1, hW1⟩ : ∃ W1, W1 = (w.alloc (.cells (lkC g f).toArray 31)).alloc (.cells Z54 31) := ⟨_, rfl⟩
  rw [← hW1] at F
  show Code.wp _ _ _ _ ((w.alloc (.cells (lkC g f).toArray 31)).alloc (.cells Z54 31))
  rw [← hW1]
  clear hW1
  go_wp2_with (first
    | (go_at_call 21; refine (h21.out _).mono ?_; rintro e w2 ⟨⟨r, hr, rfl⟩, hb⟩; have F0 := Lib.hid (F.out.below hb); replace hr := Lib.hid hr; clear hb)
    | (refine wpList_load_mid rfl 31 (.tmp 3) rfl w.heap.size 0 rfl (lkC g f) _ F.out.R Tryz.underlying31 rfl SZ.out ?_)
    | (refine wpList_store_mid rfl 31 (.tmp 6) (.tmp 20) rfl (w.heap.size + 1) 0 (lkC (setG 1 g) (upd f 2 r)).toArray rfl rfl F0.out.T2 SZ.out (lk_one _ _) ?_))
  refine bodyPost_ret (ret_row2 Tryz.prog (p := 6) (u := 7) rfl rfl rfl (lkC (setG 1 g) (upd f 2 r)) F0.out.T2 Tryz.underlying31 rfl SZ.out) rfl ?_
  exact ⟨⟨r, hr.out, rfl⟩, below_setCells F0.out.B (by omega) 0 _⟩
set_option maxRecDepth 100000 in
set_option maxHeartbeats 1000000 in
theorem c10_2 (s : ByteArray) (g : Nat → Int) (f : Nat → Nat) (x : Nat) (w : World) (hk : PK s 2) (hx : U x) : Calls Tryz.prog 10 #[.agg (lkC g f).toArray, .string s, .float .f64 x] w fun e w' => (∃ r, RV r (setV 2 x) ∧ e = .returned (.tuple #[.agg (lkC (setG 2 g) (upd f 31 r)).toArray, .int .i64 0])) ∧ Below w.heap.size w w' := by
  have n0 : (s.toList == [115, 105, 122, 101]) = false := hk.n0
  have n1 : (s.toList == [111, 112, 97, 99, 105, 116, 121]) = false := hk.n1
  have n2 : (s.toList == [103, 114, 111, 119]) = true := hk.n2
  have n3 : (s.toList == [115, 104, 114, 105, 110, 107]) = false := hk.n3
  have n4 : (s.toList == [108, 101, 118, 101, 108]) = false := hk.n4
  have n5 : (s.toList == [119, 105, 100, 116, 104]) = false := hk.n5
  have n6 : (s.toList == [104, 101, 105, 103, 104, 116]) = false := hk.n6
  have F := Lib.hid (prep w g f)
  have SZ := Lib.hid size31
  have h21 := Lib.hid fun w => c21_2 s g f x w hk hx
  clear hk hx
  go_enter Tryz.func10, Tryz.ntmps10
  go_upto_region 1 with fail
  obtain ⟨W1, hW1⟩ : ∃ W1, W1 = (w.alloc (.cells (lkC g f).toArray 31)).alloc (.cells Z54 31) := ⟨_, rfl⟩
  rw [← hW1] at F
  show Code.wp _ _ _ _ ((w.alloc (.cells (lkC g f).toArray 31)).alloc (.cells Z54 31))
  rw [← hW1]
  clear hW1
  go_wp2_with (first
    | (go_at_call 21; refine (h21.out _).mono ?_; rintro e w2 ⟨⟨r, hr, rfl⟩, hb⟩; have F0 := Lib.hid (F.out.below hb); replace hr := Lib.hid hr; clear hb)
    | (refine wpList_load_mid rfl 31 (.tmp 3) rfl w.heap.size 0 rfl (lkC g f) _ F.out.R Tryz.underlying31 rfl SZ.out ?_)
    | (refine wpList_store_mid rfl 31 (.tmp 6) (.tmp 20) rfl (w.heap.size + 1) 0 (lkC (setG 2 g) (upd f 31 r)).toArray rfl rfl F0.out.T2 SZ.out (lk_one _ _) ?_))
  refine bodyPost_ret (ret_row2 Tryz.prog (p := 6) (u := 7) rfl rfl rfl (lkC (setG 2 g) (upd f 31 r)) F0.out.T2 Tryz.underlying31 rfl SZ.out) rfl ?_
  exact ⟨⟨r, hr.out, rfl⟩, below_setCells F0.out.B (by omega) 0 _⟩
set_option maxRecDepth 100000 in
set_option maxHeartbeats 1000000 in
theorem c10_3 (s : ByteArray) (g : Nat → Int) (f : Nat → Nat) (x : Nat) (w : World) (hk : PK s 3) (hx : U x) : Calls Tryz.prog 10 #[.agg (lkC g f).toArray, .string s, .float .f64 x] w fun e w' => (∃ r, RV r (setV 3 x) ∧ e = .returned (.tuple #[.agg (lkC (setG 3 g) (upd f 32 r)).toArray, .int .i64 0])) ∧ Below w.heap.size w w' := by
  have n0 : (s.toList == [115, 105, 122, 101]) = false := hk.n0
  have n1 : (s.toList == [111, 112, 97, 99, 105, 116, 121]) = false := hk.n1
  have n2 : (s.toList == [103, 114, 111, 119]) = false := hk.n2
  have n3 : (s.toList == [115, 104, 114, 105, 110, 107]) = true := hk.n3
  have n4 : (s.toList == [108, 101, 118, 101, 108]) = false := hk.n4
  have n5 : (s.toList == [119, 105, 100, 116, 104]) = false := hk.n5
  have n6 : (s.toList == [104, 101, 105, 103, 104, 116]) = false := hk.n6
  have F := Lib.hid (prep w g f)
  have SZ := Lib.hid size31
  have h21 := Lib.hid fun w => c21_3 s g f x w hk hx
  clear hk hx
  go_enter Tryz.func10, Tryz.ntmps10
  go_upto_region 1 with fail
  obtain ⟨W1, hW1⟩ : ∃ W1, W1 = (w.alloc (.cells (lkC g f).toArray 31)).alloc (.cells Z54 31) := ⟨_, rfl⟩
  rw [← hW1] at F
  show Code.wp _ _ _ _ ((w.alloc (.cells (lkC g f).toArray 31)).alloc (.cells Z54 31))
  rw [← hW1]
  clear hW1
  go_wp2_with (first
    | (go_at_call 21; refine (h21.out _).mono ?_; rintro e w2 ⟨⟨r, hr, rfl⟩, hb⟩; have F0 := Lib.hid (F.out.below hb); replace hr := Lib.hid hr; clear hb)
    | (refine wpList_load_mid rfl 31 (.tmp 3) rfl w.heap.size 0 rfl (lkC g f) _ F.out.R Tryz.underlying31 rfl SZ.out ?_)
    | (refine wpList_store_mid rfl 31 (.tmp 6) (.tmp 20) rfl (w.heap.size + 1) 0 (lkC (setG 3 g) (upd f 32 r)).toArray rfl rfl F0.out.T2 SZ.out (lk_one _ _) ?_))
  refine bodyPost_ret (ret_row2 Tryz.prog (p := 6) (u := 7) rfl rfl rfl (lkC (setG 3 g) (upd f 32 r)) F0.out.T2 Tryz.underlying31 rfl SZ.out) rfl ?_
  exact ⟨⟨r, hr.out, rfl⟩, below_setCells F0.out.B (by omega) 0 _⟩
set_option maxRecDepth 100000 in
set_option maxHeartbeats 1000000 in
theorem c10_4 (s : ByteArray) (g : Nat → Int) (f : Nat → Nat) (x : Nat) (w : World) (hk : PK s 4) (hx : U x) : Calls Tryz.prog 10 #[.agg (lkC g f).toArray, .string s, .float .f64 x] w fun e w' => (∃ r, RV r (setV 4 x) ∧ e = .returned (.tuple #[.agg (lkC (setG 4 g) (upd f 53 r)).toArray, .int .i64 0])) ∧ Below w.heap.size w w' := by
  have n0 : (s.toList == [115, 105, 122, 101]) = false := hk.n0
  have n1 : (s.toList == [111, 112, 97, 99, 105, 116, 121]) = false := hk.n1
  have n2 : (s.toList == [103, 114, 111, 119]) = false := hk.n2
  have n3 : (s.toList == [115, 104, 114, 105, 110, 107]) = false := hk.n3
  have n4 : (s.toList == [108, 101, 118, 101, 108]) = true := hk.n4
  have n5 : (s.toList == [119, 105, 100, 116, 104]) = false := hk.n5
  have n6 : (s.toList == [104, 101, 105, 103, 104, 116]) = false := hk.n6
  have F := Lib.hid (prep w g f)
  have SZ := Lib.hid size31
  have h21 := Lib.hid fun w => c21_4 s g f x w hk hx
  clear hk hx
  go_enter Tryz.func10, Tryz.ntmps10
  go_upto_region 1 with fail
  obtain ⟨W1, hW1⟩ : ∃ W1, W1 = (w.alloc (.cells (lkC g f).toArray 31)).alloc (.cells Z54 31) := ⟨_, rfl⟩
  rw [← hW1] at F
  show Code.wp _ _ _ _ ((w.alloc (.cells (lkC g f).toArray 31)).alloc (.cells Z54 31))
  rw [← hW1]
  clear hW1
  go_wp2_with (first
    | (go_at_call 21; refine (h21.out _).mono ?_; rintro e w2 ⟨⟨r, hr, rfl⟩, hb⟩; have F0 := Lib.hid (F.out.below hb); replace hr := Lib.hid hr; clear hb)
    | (refine wpList_load_mid rfl 31 (.tmp 3) rfl w.heap.size 0 rfl (lkC g f) _ F.out.R Tryz.underlying31 rfl SZ.out ?_)
    | (refine wpList_store_mid rfl 31 (.tmp 6) (.tmp 20) rfl (w.heap.size + 1) 0 (lkC (setG 4 g) (upd f 53 r)).toArray rfl rfl F0.out.T2 SZ.out (lk_one _ _) ?_))
  refine bodyPost_ret (ret_row2 Tryz.prog (p := 6) (u := 7) rfl rfl rfl (lkC (setG 4 g) (upd f 53 r)) F0.out.T2 Tryz.underlying31 rfl SZ.out) rfl ?_
  exact ⟨⟨r, hr.out, rfl⟩, below_setCells F0.out.B (by omega) 0 _⟩
set_option maxRecDepth 100000 in
set_option maxHeartbeats 1000000 in
theorem c10_5 (s : ByteArray) (g : Nat → Int) (f : Nat → Nat) (x : Nat) (w : World) (hk : PK s 5) (hx : U x) : Calls Tryz.prog 10 #[.agg (lkC g f).toArray, .string s, .float .f64 x] w fun e w' => (∃ r, RV r (setV 5 x) ∧ e = .returned (.tuple #[.agg (lkC (setG 5 g) (upd f 3 r)).toArray, .int .i64 0])) ∧ Below w.heap.size w w' := by
  have n0 : (s.toList == [115, 105, 122, 101]) = false := hk.n0
  have n1 : (s.toList == [111, 112, 97, 99, 105, 116, 121]) = false := hk.n1
  have n2 : (s.toList == [103, 114, 111, 119]) = false := hk.n2
  have n3 : (s.toList == [115, 104, 114, 105, 110, 107]) = false := hk.n3
  have n4 : (s.toList == [108, 101, 118, 101, 108]) = false := hk.n4
  have n5 : (s.toList == [119, 105, 100, 116, 104]) = true := hk.n5
  have n6 : (s.toList == [104, 101, 105, 103, 104, 116]) = false := hk.n6
  have F := Lib.hid (prep w g f)
  have SZ := Lib.hid size31
  have h21 := Lib.hid fun w => c21_5 s g f x w hk hx
  clear hk hx
  go_enter Tryz.func10, Tryz.ntmps10
  go_upto_region 1 with fail
  obtain ⟨W1, hW1⟩ : ∃ W1, W1 = (w.alloc (.cells (lkC g f).toArray 31)).alloc (.cells Z54 31) := ⟨_, rfl⟩
  rw [← hW1] at F
  show Code.wp _ _ _ _ ((w.alloc (.cells (lkC g f).toArray 31)).alloc (.cells Z54 31))
  rw [← hW1]
  clear hW1
  go_wp2_with (first
    | (go_at_call 21; refine (h21.out _).mono ?_; rintro e w2 ⟨⟨r, hr, rfl⟩, hb⟩; have F0 := Lib.hid (F.out.below hb); replace hr := Lib.hid hr; clear hb)
    | (refine wpList_load_mid rfl 31 (.tmp 3) rfl w.heap.size 0 rfl (lkC g f) _ F.out.R Tryz.underlying31 rfl SZ.out ?_)
    | (refine wpList_store_mid rfl 31 (.tmp 6) (.tmp 20) rfl (w.heap.size + 1) 0 (lkC (setG 5 g) (upd f 3 r)).toArray rfl rfl F0.out.T2 SZ.out (lk_one _ _) ?_))
  refine bodyPost_ret (ret_row2 Tryz.prog (p := 6) (u := 7) rfl rfl rfl (lkC (setG 5 g) (upd f 3 r)) F0.out.T2 Tryz.underlying31 rfl SZ.out) rfl ?_
  exact ⟨⟨r, hr.out, rfl⟩, below_setCells F0.out.B (by omega) 0 _⟩
set_option maxRecDepth 100000 in
set_option maxHeartbeats 1000000 in
theorem c10_6 (s : ByteArray) (g : Nat → Int) (f : Nat → Nat) (x : Nat) (w : World) (hk : PK s 6) (hx : U x) : Calls Tryz.prog 10 #[.agg (lkC g f).toArray, .string s, .float .f64 x] w fun e w' => (∃ r, RV r (setV 6 x) ∧ e = .returned (.tuple #[.agg (lkC (setG 6 g) (upd f 5 r)).toArray, .int .i64 0])) ∧ Below w.heap.size w w' := by
  have n0 : (s.toList == [115, 105, 122, 101]) = false := hk.n0
  have n1 : (s.toList == [111, 112, 97, 99, 105, 116, 121]) = false := hk.n1
  have n2 : (s.toList == [103, 114, 111, 119]) = false := hk.n2
  have n3 : (s.toList == [115, 104, 114, 105, 110, 107]) = false := hk.n3
  have n4 : (s.toList == [108, 101, 118, 101, 108]) = false := hk.n4
  have n5 : (s.toList == [119, 105, 100, 116, 104]) = false := hk.n5
  have n6 : (s.toList == [104, 101, 105, 103, 104, 116]) = true := hk.n6
  have F := Lib.hid (prep w g f)
  have SZ := Lib.hid size31
  have h21 := Lib.hid fun w => c21_6 s g f x w hk hx
  clear hk hx
  go_enter Tryz.func10, Tryz.ntmps10
  go_upto_region 1 with fail
  obtain ⟨W1, hW1⟩ : ∃ W1, W1 = (w.alloc (.cells (lkC g f).toArray 31)).alloc (.cells Z54 31) := ⟨_, rfl⟩
  rw [← hW1] at F
  show Code.wp _ _ _ _ ((w.alloc (.cells (lkC g f).toArray 31)).alloc (.cells Z54 31))
  rw [← hW1]
  clear hW1
  go_wp2_with (first
    | (go_at_call 21; refine (h21.out _).mono ?_; rintro e w2 ⟨⟨r, hr, rfl⟩, hb⟩; have F0 := Lib.hid (F.out.below hb); replace hr := Lib.hid hr; clear hb)
    | (refine wpList_load_mid rfl 31 (.tmp 3) rfl w.heap.size 0 rfl (lkC g f) _ F.out.R Tryz.underlying31 rfl SZ.out ?_)
    | (refine wpList_store_mid rfl 31 (.tmp 6) (.tmp 20) rfl (w.heap.size + 1) 0 (lkC (setG 6 g) (upd f 5 r)).toArray rfl rfl F0.out.T2 SZ.out (lk_one _ _) ?_))
  refine bodyPost_ret (ret_row2 Tryz.prog (p := 6) (u := 7) rfl rfl rfl (lkC (setG 6 g) (upd f 5 r)) F0.out.T2 Tryz.underlying31 rfl SZ.out) rfl ?_
  exact ⟨⟨r, hr.out, rfl⟩, below_setCells F0.out.B (by omega) 0 _⟩
set_option maxRecDepth 100000 in
set_option maxHeartbeats 1000000 in
theorem c10_7 (s : ByteArray) (g : Nat → Int) (f : Nat → Nat) (x : Nat) (w : World) (hk : PK s 7) (hx : U x) : Calls Tryz.prog 10 #[.agg (lkC g f).toArray, .string s, .float .f64 x] w fun e w' => e = .returned (.tuple #[.agg Z54, .int .i64 1]) ∧ Below w.heap.size w w' := by
  have n0 : (s.toList == [115, 105, 122, 101]) = false := hk.n0
  have n1 : (s.toList == [111, 112, 97, 99, 105, 116, 121]) = false := hk.n1
  have n2 : (s.toList == [103, 114, 111, 119]) = false := hk.n2
  have n3 : (s.toList == [115, 104, 114, 105, 110, 107]) = false := hk.n3
  have n4 : (s.toList == [108, 101, 118, 101, 108]) = false := hk.n4
  have n5 : (s.toList == [119, 105, 100, 116, 104]) = false := hk.n5
  have n6 : (s.toList == [104, 101, 105, 103, 104, 116]) = false := hk.n6
  have F := Lib.hid (prep w g f)
  have SZ := Lib.hid size31
  clear hk hx
  go_enter Tryz.func10, Tryz.ntmps10
  go_upto_region 1 with fail
  obtain ⟨W1, hW1⟩ : ∃ W1, W1 = (w.alloc (.cells (lkC g f).toArray 31)).alloc (.cells Z54 31) := ⟨_, rfl⟩
  rw [← hW1] at F
  show Code.wp _ _ _ _ ((w.alloc (.cells (lkC g f).toArray 31)).alloc (.cells Z54 31))
  rw [← hW1]
  clear hW1
  go_wp2_with (first
    | (refine wpList_builtC rfl 31 [] rfl [] Z54 rfl built31 ?_)
    | (refine wpList_store_mid rfl 31 (.tmp 6) (.tmp 21) rfl (w.heap.size + 1) 0 Z54 rfl rfl F.out.T2 SZ.out (lk_one _ _) ?_))
  refine bodyPost_ret (ret_row2 Tryz.prog (p := 6) (u := 7) rfl rfl rfl (lkC (fun _ => 0) (fun _ => 0)) F.out.T2 Tryz.underlying31 rfl SZ.out) rfl ?_
  exact ⟨rfl, below_setCells F.out.B (by omega) 0 _⟩
theorem c10 (s : ByteArray) (g : Nat → Int) (f : Nat → Nat) (x : Nat) (w : World) (hf : ∀ i, U (f i)) (hx : U x) : Calls Tryz.prog 10 #[.agg (lkC g f).toArray, .string s, .float .f64 x] w fun e w' => PutR (K s) x g f (.int .i64 0) (.int .i64 1) e ∧ Below w.heap.size w w' := by
  have hk := PK.of s
  rcases K_lt s with h | h | h | h | h | h | h | h <;> rw [h] at hk ⊢
  · exact (c10_0 s g f x w hk hx).mono fun e w2 h => ⟨put_of (by decide) hf h.1, h.2⟩
  · exact (c10_1 s g f x w hk hx).mono fun e w2 h => ⟨put_of (by decide) hf h.1, h.2⟩
  · exact (c10_2 s g f x w hk hx).mono fun e w2 h => ⟨put_of (by decide) hf h.1, h.2⟩
  · exact (c10_3 s g f x w hk hx).mono fun e w2 h => ⟨put_of (by decide) hf h.1, h.2⟩
  · exact (c10_4 s g f x w hk hx).mono fun e w2 h => ⟨put_of (by decide) hf h.1, h.2⟩
  · exact (c10_5 s g f x w hk hx).mono fun e w2 h => ⟨put_of (by decide) hf h.1, h.2⟩
  · exact (c10_6 s g f x w hk hx).mono fun e w2 h => ⟨put_of (by decide) hf h.1, h.2⟩
  · exact (c10_7 s g f x w hk hx).mono fun e w2 h => ⟨put_no h.1, h.2⟩
theorem c11 (s : ByteArray) (g : Nat → Int) (f : Nat → Nat) (x : Nat) (w : World) (hf : ∀ i, U (f i)) (hx : U x) : Calls Tryz.prog 11 #[.agg (lkC g f).toArray, .string s, .float .f64 x] w fun e w' => PutR (K s) x g f (.bool true) (.bool false) e ∧ Below w.heap.size w w' := by
  have hk := PK.of s
  rcases K_lt s with h | h | h | h | h | h | h | h <;> rw [h] at hk ⊢
  · exact (c11_0 s g f x w hk hx).mono fun e w2 h => ⟨put_of (by decide) hf h.1, h.2⟩
  · exact (c11_1 s g f x w hk hx).mono fun e w2 h => ⟨put_of (by decide) hf h.1, h.2⟩
  · exact (c11_2 s g f x w hk hx).mono fun e w2 h => ⟨put_of (by decide) hf h.1, h.2⟩
  · exact (c11_3 s g f x w hk hx).mono fun e w2 h => ⟨put_of (by decide) hf h.1, h.2⟩
  · exact (c11_4 s g f x w hk hx).mono fun e w2 h => ⟨put_of (by decide) hf h.1, h.2⟩
  · exact (c11_5 s g f x w hk hx).mono fun e w2 h => ⟨put_of (by decide) hf h.1, h.2⟩
  · exact (c11_6 s g f x w hk hx).mono fun e w2 h => ⟨put_of (by decide) hf h.1, h.2⟩
  · exact (c11_7 s g f x w hk hx).mono fun e w2 h => ⟨put_no h.1, h.2⟩
end Go.Proofs.YtphoggimeaejnaaGreatDoor

