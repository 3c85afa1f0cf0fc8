/- The walk of StyleTells where nothing is told. -/
import Derived.Test.YtphoggimeaejnaaGreatDoorStF
namespace Go.Proofs.YtphoggimeaejnaaGreatDoor
open Go.RowKit Fl
set_option maxRecDepth 100000 in
set_option maxHeartbeats 1000000 in
theorem wTft (W : World) (g : Nat → Int) (f : Nat → Nat) (s : ByteArray) (x v : Nat) (G : Nat → Int) (p : Nat → Int) (I : Hid (RI W.heap.size (lkC g f) W (W.alloc (.cells (lkC g f).toArray 31))))
    (HA : Hid (∀ w', Below W.heap.size W w' → Calls Tryz.prog 6 #[] w' fun e w'' => e = .returned (.bool true) ∧ Below w'.heap.size w' w''))
    (h7 : Hid (∀ w, Calls Tryz.prog 7 #[.agg (lkC g f).toArray, .string s] w fun e w' => e = .returned (.tuple #[.float .f64 v, .int .i64 1]) ∧ Below w.heap.size w w'))
    (h8 : Hid (∀ w, Calls Tryz.prog 8 #[.agg (lkC g f).toArray, .string s] w fun e w' => e = .returned (.tuple #[.float .f64 v, .bool false]) ∧ Below w.heap.size w w'))
    (h9 : Hid (∀ w, Calls Tryz.prog 9 #[.float .f64 v, .float .f64 v] w fun e w' => e = .returned (.bool true) ∧ w = w'))
    (H10 : Hid (∀ w, Calls Tryz.prog 10 #[.agg (lkC g f).toArray, .string s, .float .f64 x] w fun e w' => (∃ f', e = .returned (.tuple #[.agg (lkC G f').toArray, .int .i64 0]) ∧ (∀ i, pl (f' i) = p i) ∧ ∀ i, U (f' i)) ∧ Below w.heap.size w w'))
    (H11 : Hid (∀ w, Calls Tryz.prog 11 #[.agg (lkC g f).toArray, .string s, .float .f64 x] w fun e w' => (∃ f', e = .returned (.tuple #[.agg (lkC G f').toArray, .bool true]) ∧ (∀ i, pl (f' i) = p i) ∧ ∀ i, U (f' i)) ∧ Below w.heap.size w w')) :
    Calls Tryz.prog 3 #[.agg (lkC g f).toArray, .string s, .float .f64 x] W fun e w' => e = .returned (.bool true) ∧ Below W.heap.size W w' := by
  have SZ := Lib.hid size31
  go_enter Tryz.func3, Tryz.ntmps3
  go_upto_region 1 with fail
  refine wpG (fun wx => RI W.heap.size (lkC g f) W wx) I.out ?_
  intro w1 hI
  replace I := Lib.hid hI
  clear hI
  go_upto_region 2 with (first
    | (go_at_call 6; refine (HA.out _ I.out.b).mono ?_; rintro e w2 ⟨rfl, hb⟩; replace I := Lib.hid (I.out.below (I.out.b.size) hb); clear hb HA))
  go_upto_region 3 with (first
    | (go_at_call 7; refine (h7.out _).mono ?_; rintro e w3 ⟨rfl, hb⟩; replace I := Lib.hid (I.out.below (I.out.b.size) hb); clear hb h7)
    | (refine wpList_load_mid rfl 31 (.tmp 3) rfl W.heap.size 0 rfl (lkC g f) _ I.out.r Tryz.underlying31 rfl SZ.out ?_))
  go_upto_region 4 with (first
    | (go_at_call 8; refine (h8.out _).mono ?_; rintro e w4 ⟨rfl, hb⟩; replace I := Lib.hid (I.out.below (I.out.b.size) hb); clear hb h8)
    | (refine wpList_load_mid rfl 31 (.tmp 3) rfl W.heap.size 0 rfl (lkC g f) _ I.out.r Tryz.underlying31 rfl SZ.out ?_))
  go_upto_region 5 with (first
    | (go_at_call 9; refine (h9.out _).mono ?_; rintro e w5 ⟨rfl, rfl⟩; clear h9))
  go_upto_region 6 with (first
    | (go_at_call 10; refine (H10.out _).mono ?_; rintro e w6 ⟨⟨f1, rfl, hp1, hu1⟩, hb⟩; replace I := Lib.hid (I.out.below (I.out.b.size) hb); clear hb H10; have P1 := Lib.hid (And.intro hp1 hu1); clear hp1 hu1; have L1 := Lib.hid (lay_lit G f1 w6))
    | (refine wpList_load_mid rfl 31 (.tmp 3) rfl W.heap.size 0 rfl (lkC g f) _ I.out.r Tryz.underlying31 rfl SZ.out ?_)
    | (refine wpList_store_mid rfl 31 (.tmp 13) (.tmp 52) rfl w6.heap.size 0 (lkC G f1).toArray rfl rfl L1.out SZ.out (lk_one _ _) ?_; refine wpLG (fun wx => RI W.heap.size (lkC g f) W wx ∧ RI w6.heap.size (lkC G f1) W wx) (lay_ri I.out G f1) ?_; intro w7 hI; replace I := Lib.hid hI.1; have J := Lib.hid hI.2; clear hI))
  clear L1
  generalize w6.heap.size = b6 at *
  clear w6
  go_upto_region 7 with (first
    | (go_at_call 11; refine (H11.out _).mono ?_; rintro e w8 ⟨⟨f2, rfl, hp2, hu2⟩, hb⟩; replace J := Lib.hid (J.out.below (J.out.b.size) hb); clear I hb H11; have P2 := Lib.hid (And.intro hp2 hu2); clear hp2 hu2; have L1 := Lib.hid (lay_lit G f2 w8))
    | (refine wpList_load_mid rfl 31 (.tmp 3) rfl W.heap.size 0 rfl (lkC g f) _ I.out.r Tryz.underlying31 rfl SZ.out ?_)
    | (refine wpList_store_mid rfl 31 (.tmp 15) (.tmp 59) rfl w8.heap.size 0 (lkC G f2).toArray rfl rfl L1.out SZ.out (lk_one _ _) ?_; refine wpLG (fun wx => RI b6 (lkC G f1) W wx ∧ RI w8.heap.size (lkC G f2) W wx) (lay_ri J.out G f2) ?_; intro w9 hI; replace J := Lib.hid hI.1; have J2 := Lib.hid hI.2; clear hI))
  clear L1
  generalize w8.heap.size = b8 at *
  clear w8
  have H12 : Hid (∀ w, Calls Tryz.prog 12 #[.agg (lkC G f1).toArray, .agg (lkC G f2).toArray] w fun e w' => e = .returned (.bool true) ∧ Below w.heap.size w w') := Lib.hid fun w => c12 G f1 f2 w fun i => ⟨P1.out.2 i, P2.out.2 i, (P1.out.1 i).trans (P2.out.1 i).symm⟩
  go_upto_region 8 with (first
    | (go_at_call 12; refine (H12.out _).mono ?_; rintro e w10 ⟨rfl, hb⟩; replace J := Lib.hid (J.out.below (J.out.b.size) hb); clear hb H12)
    | (refine wpList_load_mid rfl 31 (.tmp 13) rfl b6 0 rfl (lkC G f1) _ J.out.r Tryz.underlying31 rfl SZ.out ?_)
    | (refine wpList_load_mid rfl 31 (.tmp 15) rfl b8 0 rfl (lkC G f2) _ J2.out.r Tryz.underlying31 rfl SZ.out ?_))
  go_wp2
  go_ret
  exact ⟨rfl, J.out.b⟩
set_option maxRecDepth 100000 in
set_option maxHeartbeats 1000000 in
theorem wTff (W : World) (g : Nat → Int) (f : Nat → Nat) (s : ByteArray) (x v : Nat) (G : Nat → Int) (p : Nat → Int) (I : Hid (RI W.heap.size (lkC g f) W (W.alloc (.cells (lkC g f).toArray 31))))
    (HA : Hid (∀ w', Below W.heap.size W w' → Calls Tryz.prog 6 #[] w' fun e w'' => e = .returned (.bool true) ∧ Below w'.heap.size w' w''))
    (h7 : Hid (∀ w, Calls Tryz.prog 7 #[.agg (lkC g f).toArray, .string s] w fun e w' => e = .returned (.tuple #[.float .f64 v, .int .i64 1]) ∧ Below w.heap.size w w'))
    (h8 : Hid (∀ w, Calls Tryz.prog 8 #[.agg (lkC g f).toArray, .string s] w fun e w' => e = .returned (.tuple #[.float .f64 v, .bool false]) ∧ Below w.heap.size w w'))
    (h9 : Hid (∀ w, Calls Tryz.prog 9 #[.float .f64 v, .float .f64 v] w fun e w' => e = .returned (.bool true) ∧ w = w'))
    (H10 : Hid (∀ w, Calls Tryz.prog 10 #[.agg (lkC g f).toArray, .string s, .float .f64 x] w fun e w' => (∃ f', e = .returned (.tuple #[.agg (lkC G f').toArray, .int .i64 1]) ∧ (∀ i, pl (f' i) = p i) ∧ ∀ i, U (f' i)) ∧ Below w.heap.size w w'))
    (H11 : Hid (∀ w, Calls Tryz.prog 11 #[.agg (lkC g f).toArray, .string s, .float .f64 x] w fun e w' => (∃ f', e = .returned (.tuple #[.agg (lkC G f').toArray, .bool false]) ∧ (∀ i, pl (f' i) = p i) ∧ ∀ i, U (f' i)) ∧ Below w.heap.size w w')) :
    Calls Tryz.prog 3 #[.agg (lkC g f).toArray, .string s, .float .f64 x] W fun e w' => e = .returned (.bool true) ∧ Below W.heap.size W w' := by
  have SZ := Lib.hid size31
  go_enter Tryz.func3, Tryz.ntmps3
  go_upto_region 1 with fail
  refine wpG (fun wx => RI W.heap.size (lkC g f) W wx) I.out ?_
  intro w1 hI
  replace I := Lib.hid hI
  clear hI
  go_upto_region 2 with (first
    | (go_at_call 6; refine (HA.out _ I.out.b).mono ?_; rintro e w2 ⟨rfl, hb⟩; replace I := Lib.hid (I.out.below (I.out.b.size) hb); clear hb HA))
  go_upto_region 3 with (first
    | (go_at_call 7; refine (h7.out _).mono ?_; rintro e w3 ⟨rfl, hb⟩; replace I := Lib.hid (I.out.below (I.out.b.size) hb); clear hb h7)
    | (refine wpList_load_mid rfl 31 (.tmp 3) rfl W.heap.size 0 rfl (lkC g f) _ I.out.r Tryz.underlying31 rfl SZ.out ?_))
  go_upto_region 4 with (first
    | (go_at_call 8; refine (h8.out _).mono ?_; rintro e w4 ⟨rfl, hb⟩; replace I := Lib.hid (I.out.below (I.out.b.size) hb); clear hb h8)
    | (refine wpList_load_mid rfl 31 (.tmp 3) rfl W.heap.size 0 rfl (lkC g f) _ I.out.r Tryz.underlying31 rfl SZ.out ?_))
  go_upto_region 5 with (first
    | (go_at_call 9; refine (h9.out _).mono ?_; rintro e w5 ⟨rfl, rfl⟩; clear h9))
  go_upto_region 6 with (first
    | (go_at_call 10; refine (H10.out _).mono ?_; rintro e w6 ⟨⟨f1, rfl, hp1, hu1⟩, hb⟩; replace I := Lib.hid (I.out.below (I.out.b.size) hb); clear hb H10; have P1 := Lib.hid (And.intro hp1 hu1); clear hp1 hu1; have L1 := Lib.hid (lay_lit G f1 w6))
    | (refine wpList_load_mid rfl 31 (.tmp 3) rfl W.heap.size 0 rfl (lkC g f) _ I.out.r Tryz.underlying31 rfl SZ.out ?_)
    | (refine wpList_store_mid rfl 31 (.tmp 13) (.tmp 52) rfl w6.heap.size 0 (lkC G f1).toArray rfl rfl L1.out SZ.out (lk_one _ _) ?_; refine wpLG (fun wx => RI W.heap.size (lkC g f) W wx ∧ RI w6.heap.size (lkC G f1) W wx) (lay_ri I.out G f1) ?_; intro w7 hI; replace I := Lib.hid hI.1; have J := Lib.hid hI.2; clear hI))
  clear L1
  generalize w6.heap.size = b6 at *
  clear w6
  go_upto_region 7 with (first
    | (go_at_call 11; refine (H11.out _).mono ?_; rintro e w8 ⟨⟨f2, rfl, hp2, hu2⟩, hb⟩; replace J := Lib.hid (J.out.below (J.out.b.size) hb); clear I hb H11; have P2 := Lib.hid (And.intro hp2 hu2); clear hp2 hu2; have L1 := Lib.hid (lay_lit G f2 w8))
    | (refine wpList_load_mid rfl 31 (.tmp 3) rfl W.heap.size 0 rfl (lkC g f) _ I.out.r Tryz.underlying31 rfl SZ.out ?_)
    | (refine wpList_store_mid rfl 31 (.tmp 15) (.tmp 59) rfl w8.heap.size 0 (lkC G f2).toArray rfl rfl L1.out SZ.out (lk_one _ _) ?_; refine wpLG (fun wx => RI b6 (lkC G f1) W wx ∧ RI w8.heap.size (lkC G f2) W wx) (lay_ri J.out G f2) ?_; intro w9 hI; replace J := Lib.hid hI.1; have J2 := Lib.hid hI.2; clear hI))
  clear L1
  generalize w8.heap.size = b8 at *
  clear w8
  have H12 : Hid (∀ w, Calls Tryz.prog 12 #[.agg (lkC G f1).toArray, .agg (lkC G f2).toArray] w fun e w' => e = .returned (.bool true) ∧ Below w.heap.size w w') := Lib.hid fun w => c12 G f1 f2 w fun i => ⟨P1.out.2 i, P2.out.2 i, (P1.out.1 i).trans (P2.out.1 i).symm⟩
  go_upto_region 8 with (first
    | (go_at_call 12; refine (H12.out _).mono ?_; rintro e w10 ⟨rfl, hb⟩; replace J := Lib.hid (J.out.below (J.out.b.size) hb); clear hb H12)
    | (refine wpList_load_mid rfl 31 (.tmp 13) rfl b6 0 rfl (lkC G f1) _ J.out.r Tryz.underlying31 rfl SZ.out ?_)
    | (refine wpList_load_mid rfl 31 (.tmp 15) rfl b8 0 rfl (lkC G f2) _ J2.out.r Tryz.underlying31 rfl SZ.out ?_))
  go_wp2
  go_ret
  exact ⟨rfl, J.out.b⟩
end Go.Proofs.YtphoggimeaejnaaGreatDoor
