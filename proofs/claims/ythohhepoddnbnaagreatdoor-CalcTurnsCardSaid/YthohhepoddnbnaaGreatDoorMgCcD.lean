/- The walk of CalcTurns (printed by gen_ccd.py). The walk of CalcRounds. The walk of CalcTurns, joined. -/
import Derived.Test.YthohhepoddnbnaaGreatDoorMgCbU
import Derived.Test.YthohhepoddnbnaaGreatDoorCcA
namespace Go.Proofs.YthohhepoddnbnaaGreatDoor
open Go.RowKit Fl

/-- the numbers' cells stay -/
structure TI (W w : World) (z s : Int) : Prop where
  l : Below W.heap.size W w
  f2 : w.cell? ⟨W.heap.size, 2, none⟩ = some (.int .i32 z)
  f3 : w.cell? ⟨W.heap.size, 3, none⟩ = some (.int .i16 s)
  lt : W.heap.size < w.heap.size
theorem TI.below {W w w' : World} {z s : Int} (h : TI W w z s) (k : Below w.heap.size w w') : TI W w' z s :=
  ⟨h.l.trans (k.mono h.l.size), (k.cell (p := ⟨W.heap.size, 2, none⟩) h.lt).trans h.f2, (k.cell (p := ⟨W.heap.size, 3, none⟩) h.lt).trans h.f3, Nat.lt_of_lt_of_le h.lt k.size⟩
theorem TI.drew {W w : World} {z s : Int} (h : TI W w z s) (n : Nat) : TI W (w.drewN n) z s := ⟨BdN h.l n, h.f2, h.f3, h.lt⟩
/-- what the calls answer -/
structure TC (x y p r m u d e8z eIs v v2 : Nat) : Prop where
  a1 : ∀ w, Calls Tryz.prog 15 #[.float .f64 (ng x), .float .f64 y] w fun e w' => e = .returned (.float .f64 p) ∧ Below w.heap.size w w'
  a2 : ∀ w, Calls Tryz.prog 15 #[.float .f64 x, .float .f64 y] w fun e w' => e = .returned (.float .f64 r) ∧ Below w.heap.size w w'
  a3 : ∀ w, Calls Tryz.prog 16 #[.float .f64 x, .float .f64 y] w fun e w' => e = .returned (.float .f64 m) ∧ Below w.heap.size w w'
  s1 : ∀ w, Calls Tryz.prog 12 #[.float .f64 p, .float .f64 (ng r)] w fun e w' => e = .returned (.bool true) ∧ w = w'
  r1 : ∀ w, Calls Tryz.prog 10 #[.string ⟨#[117, 112]⟩, .float .f64 x, .float .f64 y] w fun e w' => e = .returned (.tuple #[.float .f64 u, .int .i64 0]) ∧ Below w.heap.size w w'
  r2 : ∀ w, Calls Tryz.prog 10 #[.string ⟨#[100, 111, 119, 110]⟩, .float .f64 (ng x), .float .f64 y] w fun e w' => e = .returned (.tuple #[.float .f64 d, .int .i64 0]) ∧ Below w.heap.size w w'
  s2 : ∀ w, Calls Tryz.prog 12 #[.float .f64 u, .float .f64 (ng d)] w fun e w' => e = .returned (.bool true) ∧ w = w'
  r3 : ∀ w, Calls Tryz.prog 10 #[.string ⟨#[110, 101, 97, 114, 101, 115, 116]⟩, .float .f64 e8z, .float .f64 eIs] w fun e w' => e = .returned (.tuple #[.float .f64 v, .int .i64 0]) ∧ Below w.heap.size w w'
  r4 : ∀ w, Calls Tryz.prog 10 #[.string ⟨#[110, 101, 97, 114, 101, 115, 116]⟩, .float .f64 v, .float .f64 eIs] w fun e w' => e = .returned (.tuple #[.float .f64 v2, .int .i64 0]) ∧ Below w.heap.size w w'
  s3 : ∀ w, Calls Tryz.prog 12 #[.float .f64 v, .float .f64 v2] w fun e w' => e = .returned (.bool true) ∧ w = w'
  gr : ∀ w, Calls Tryz.prog 17 #[.float .f64 r] w fun e w' => e = .returned (.float .f64 (rg r)) ∧ w = w'
  gy : ∀ w, Calls Tryz.prog 17 #[.float .f64 y] w fun e w' => e = .returned (.float .f64 (rg y)) ∧ w = w'
  gm : ∀ w, Calls Tryz.prog 17 #[.float .f64 m] w fun e w' => e = .returned (.float .f64 (rg m)) ∧ w = w'

set_option maxRecDepth 100000 in
set_option maxHeartbeats 8000000 in
theorem turnA (W : World) (haw : Hid (∀ w, Below W.heap.size W w → Calls Tryz.prog 9 #[] w fun e w' => e = .returned (.bool true) ∧ Below w.heap.size w w')) {x y p r m u d e8z eIs v v2 : Nat} {z s : Int} (H : Hid (TC x y p r m u d e8z eIs v v2)) (cz : floatOfInt .f64 z = eI z) (cs : floatOfInt .f64 s = eIs) (q8 : ∀ w, (binOp .quo 22 (.float .f64 (eI z)) (.float .f64 4620693217682128896)).run Tryz.prog w = .ok (.float .f64 e8z) w) (orr : FloatKind.f64.format.order r r = none) (orm : FloatKind.f64.format.order m m = none) :
    Calls Tryz.prog 5 #[.agg #[.float .f64 x, .float .f64 y, .int .i32 z, .int .i16 s]] W fun e w' => e = .returned (.bool true) ∧ Below W.heap.size W w' := by
  have ngr : ∀ (b : Nat) w, (Op.unary .neg (.float .f64 b)).run Tryz.prog w = .ok (.float .f64 (ng b)) w := fun b => ng_run b
  have B0 := Lib.hid ((Below.refl W.heap.size W).alloc (Nat.le_refl _) (.cells #[.float .f64 x, .float .f64 y, .int .i32 z, .int .i16 s] 36))
  have HA := Lib.hid (haw.out _ B0.out)
  clear haw
  go_enter Tryz.func5, Tryz.ntmps5
  go_upto_region 2 with (go_at_call 9; refine HA.out.mono ?_; rintro e w1 ⟨rfl, hb⟩; have k : ∀ i, i < 4 → w1.cell? ⟨W.heap.size, i, none⟩ = (W.alloc (.cells #[.float .f64 x, .float .f64 y, .int .i32 z, .int .i16 s] 36)).cell? ⟨W.heap.size, i, none⟩ := fun i _ => hb.cell (p := ⟨W.heap.size, i, none⟩) (by simp); have I : Hid (TI W w1 z s) := Lib.hid ⟨B0.out.trans (hb.mono (by simp)), (k 2 (by decide)).trans (by simp [go_sem]), (k 3 (by decide)).trans (by simp [go_sem]), Nat.lt_of_lt_of_le (by simp) hb.size⟩; have k0 : w1.cell? ⟨W.heap.size, 0, none⟩ = some (.float .f64 x) := (k 0 (by decide)).trans (by simp [go_sem]); have k1 : w1.cell? ⟨W.heap.size, 1, none⟩ = some (.float .f64 y) := (k 1 (by decide)).trans (by simp [go_sem]); clear hb k)
  clear HA B0
  go_upto_region 12 with (first
    | (go_at_call 15; with_reducible refine (H.out.a1 _).mono ?_; rintro e w2 ⟨rfl, hb⟩; (first | replace I := Lib.hid (I.out.below hb) | replace I := Lib.hid ((I.out.drew _).below hb) | replace I := Lib.hid (((I.out.drew _).drew _).below hb)); clear hb)
    | (go_at_call 15; with_reducible refine (H.out.a2 _).mono ?_; rintro e w3 ⟨rfl, hb⟩; (first | replace I := Lib.hid (I.out.below hb) | replace I := Lib.hid ((I.out.drew _).below hb) | replace I := Lib.hid (((I.out.drew _).drew _).below hb)); clear hb)
    | (go_at_call 16; with_reducible refine (H.out.a3 _).mono ?_; rintro e w4 ⟨rfl, hb⟩; (first | replace I := Lib.hid (I.out.below hb) | replace I := Lib.hid ((I.out.drew _).below hb) | replace I := Lib.hid (((I.out.drew _).drew _).below hb)); clear hb)
    | (go_at_call 12; with_reducible refine (H.out.s1 _).mono ?_; rintro e w' ⟨rfl, rfl⟩)
    | (go_at_call 10; with_reducible refine (H.out.r1 _).mono ?_; rintro e w5 ⟨rfl, hb⟩; (first | replace I := Lib.hid (I.out.below hb) | replace I := Lib.hid ((I.out.drew _).below hb) | replace I := Lib.hid (((I.out.drew _).drew _).below hb)); clear hb)
    | (go_at_call 10; with_reducible refine (H.out.r2 _).mono ?_; rintro e w6 ⟨rfl, hb⟩; (first | replace I := Lib.hid (I.out.below hb) | replace I := Lib.hid ((I.out.drew _).below hb) | replace I := Lib.hid (((I.out.drew _).drew _).below hb)); clear hb)
    | (go_at_call 12; with_reducible refine (H.out.s2 _).mono ?_; rintro e w' ⟨rfl, rfl⟩)
    | (go_at_call 17; with_reducible refine (H.out.gr _).mono ?_; rintro e w' ⟨rfl, rfl⟩)
    | (go_at_call 17; with_reducible refine (H.out.gy _).mono ?_; rintro e w' ⟨rfl, rfl⟩)
    | (go_at_call 17; with_reducible refine (H.out.gm _).mono ?_; rintro e w' ⟨rfl, rfl⟩))
  have k2 := I.out.f2
  have k3 := I.out.f3
  clear ngr
  go_wp2_with (first
    | (go_at_call 10; with_reducible refine (H.out.r3 _).mono ?_; rintro e w7 ⟨rfl, hb⟩; (first | replace I := Lib.hid (I.out.below hb) | replace I := Lib.hid ((I.out.drew _).below hb) | replace I := Lib.hid (((I.out.drew _).drew _).below hb)); clear hb; have k4 := I.out.f3)
    | (go_at_call 10; with_reducible refine (H.out.r4 _).mono ?_; rintro e w8 ⟨rfl, hb⟩; (first | replace I := Lib.hid (I.out.below hb) | replace I := Lib.hid ((I.out.drew _).below hb) | replace I := Lib.hid (((I.out.drew _).drew _).below hb)); clear hb)
    | (go_at_call 12; with_reducible refine (H.out.s3 _).mono ?_; rintro e w' ⟨rfl, rfl⟩))
  go_ret
  exact ⟨rfl, I.out.l⟩

set_option maxRecDepth 100000 in
set_option maxHeartbeats 8000000 in
theorem turnB (W : World) (haw : Hid (∀ w, Below W.heap.size W w → Calls Tryz.prog 9 #[] w fun e w' => e = .returned (.bool true) ∧ Below w.heap.size w w')) {x y p r m u d e8z eIs v v2 : Nat} {z s : Int} (H : Hid (TC x y p r m u d e8z eIs v v2)) (cz : floatOfInt .f64 z = eI z) (cs : floatOfInt .f64 s = eIs) (q8 : ∀ w, (binOp .quo 22 (.float .f64 (eI z)) (.float .f64 4620693217682128896)).run Tryz.prog w = .ok (.float .f64 e8z) w) (orr : FloatKind.f64.format.order r r = some .eq) (orm : FloatKind.f64.format.order m m = some .eq) (hsub : ∀ w, (binOp .sub 22 (.float .f64 y) (.float .f64 y)).run Tryz.prog w = .ok (.float .f64 (fop .sub y y w)) (w.drewN 1)) (hsn : ∀ w, FloatKind.f64.format.order (fop .sub y y w) 0 = none) :
    Calls Tryz.prog 5 #[.agg #[.float .f64 x, .float .f64 y, .int .i32 z, .int .i16 s]] W fun e w' => e = .returned (.bool true) ∧ Below W.heap.size W w' := by
  have ngr : ∀ (b : Nat) w, (Op.unary .neg (.float .f64 b)).run Tryz.prog w = .ok (.float .f64 (ng b)) w := fun b => ng_run b
  have B0 := Lib.hid ((Below.refl W.heap.size W).alloc (Nat.le_refl _) (.cells #[.float .f64 x, .float .f64 y, .int .i32 z, .int .i16 s] 36))
  have HA := Lib.hid (haw.out _ B0.out)
  clear haw
  go_enter Tryz.func5, Tryz.ntmps5
  go_upto_region 2 with (go_at_call 9; refine HA.out.mono ?_; rintro e w1 ⟨rfl, hb⟩; have k : ∀ i, i < 4 → w1.cell? ⟨W.heap.size, i, none⟩ = (W.alloc (.cells #[.float .f64 x, .float .f64 y, .int .i32 z, .int .i16 s] 36)).cell? ⟨W.heap.size, i, none⟩ := fun i _ => hb.cell (p := ⟨W.heap.size, i, none⟩) (by simp); have I : Hid (TI W w1 z s) := Lib.hid ⟨B0.out.trans (hb.mono (by simp)), (k 2 (by decide)).trans (by simp [go_sem]), (k 3 (by decide)).trans (by simp [go_sem]), Nat.lt_of_lt_of_le (by simp) hb.size⟩; have k0 : w1.cell? ⟨W.heap.size, 0, none⟩ = some (.float .f64 x) := (k 0 (by decide)).trans (by simp [go_sem]); have k1 : w1.cell? ⟨W.heap.size, 1, none⟩ = some (.float .f64 y) := (k 1 (by decide)).trans (by simp [go_sem]); clear hb k)
  clear HA B0
  go_upto_region 12 with (first
    | (go_at_call 15; with_reducible refine (H.out.a1 _).mono ?_; rintro e w2 ⟨rfl, hb⟩; (first | replace I := Lib.hid (I.out.below hb) | replace I := Lib.hid ((I.out.drew _).below hb) | replace I := Lib.hid (((I.out.drew _).drew _).below hb)); clear hb)
    | (go_at_call 15; with_reducible refine (H.out.a2 _).mono ?_; rintro e w3 ⟨rfl, hb⟩; (first | replace I := Lib.hid (I.out.below hb) | replace I := Lib.hid ((I.out.drew _).below hb) | replace I := Lib.hid (((I.out.drew _).drew _).below hb)); clear hb)
    | (go_at_call 16; with_reducible refine (H.out.a3 _).mono ?_; rintro e w4 ⟨rfl, hb⟩; (first | replace I := Lib.hid (I.out.below hb) | replace I := Lib.hid ((I.out.drew _).below hb) | replace I := Lib.hid (((I.out.drew _).drew _).below hb)); clear hb)
    | (go_at_call 12; with_reducible refine (H.out.s1 _).mono ?_; rintro e w' ⟨rfl, rfl⟩)
    | (go_at_call 10; with_reducible refine (H.out.r1 _).mono ?_; rintro e w5 ⟨rfl, hb⟩; (first | replace I := Lib.hid (I.out.below hb) | replace I := Lib.hid ((I.out.drew _).below hb) | replace I := Lib.hid (((I.out.drew _).drew _).below hb)); clear hb)
    | (go_at_call 10; with_reducible refine (H.out.r2 _).mono ?_; rintro e w6 ⟨rfl, hb⟩; (first | replace I := Lib.hid (I.out.below hb) | replace I := Lib.hid ((I.out.drew _).below hb) | replace I := Lib.hid (((I.out.drew _).drew _).below hb)); clear hb)
    | (go_at_call 12; with_reducible refine (H.out.s2 _).mono ?_; rintro e w' ⟨rfl, rfl⟩)
    | (go_at_call 17; with_reducible refine (H.out.gr _).mono ?_; rintro e w' ⟨rfl, rfl⟩)
    | (go_at_call 17; with_reducible refine (H.out.gy _).mono ?_; rintro e w' ⟨rfl, rfl⟩)
    | (go_at_call 17; with_reducible refine (H.out.gm _).mono ?_; rintro e w' ⟨rfl, rfl⟩))
  have k2 := I.out.f2
  have k3 := I.out.f3
  clear ngr
  go_wp2_with (first
    | (go_at_call 10; with_reducible refine (H.out.r3 _).mono ?_; rintro e w7 ⟨rfl, hb⟩; (first | replace I := Lib.hid (I.out.below hb) | replace I := Lib.hid ((I.out.drew _).below hb) | replace I := Lib.hid (((I.out.drew _).drew _).below hb)); clear hb; have k4 := I.out.f3)
    | (go_at_call 10; with_reducible refine (H.out.r4 _).mono ?_; rintro e w8 ⟨rfl, hb⟩; (first | replace I := Lib.hid (I.out.below hb) | replace I := Lib.hid ((I.out.drew _).below hb) | replace I := Lib.hid (((I.out.drew _).drew _).below hb)); clear hb)
    | (go_at_call 12; with_reducible refine (H.out.s3 _).mono ?_; rintro e w' ⟨rfl, rfl⟩))
  go_ret
  exact ⟨rfl, I.out.l⟩

set_option maxRecDepth 100000 in
set_option maxHeartbeats 8000000 in
theorem turnC (W : World) (haw : Hid (∀ w, Below W.heap.size W w → Calls Tryz.prog 9 #[] w fun e w' => e = .returned (.bool true) ∧ Below w.heap.size w w')) {x y p r m u d e8z eIs v v2 : Nat} {z s : Int} (H : Hid (TC x y p r m u d e8z eIs v v2)) (cz : floatOfInt .f64 z = eI z) (cs : floatOfInt .f64 s = eIs) (q8 : ∀ w, (binOp .quo 22 (.float .f64 (eI z)) (.float .f64 4620693217682128896)).run Tryz.prog w = .ok (.float .f64 e8z) w) (orr : FloatKind.f64.format.order r r = some .eq) (orm : FloatKind.f64.format.order m m = none) (hsub : ∀ w, (binOp .sub 22 (.float .f64 y) (.float .f64 y)).run Tryz.prog w = .ok (.float .f64 (fop .sub y y w)) (w.drewN 1)) (hsn : ∀ w, FloatKind.f64.format.order (fop .sub y y w) 0 = none) :
    Calls Tryz.prog 5 #[.agg #[.float .f64 x, .float .f64 y, .int .i32 z, .int .i16 s]] W fun e w' => e = .returned (.bool true) ∧ Below W.heap.size W w' := by
  have ngr : ∀ (b : Nat) w, (Op.unary .neg (.float .f64 b)).run Tryz.prog w = .ok (.float .f64 (ng b)) w := fun b => ng_run b
  have B0 := Lib.hid ((Below.refl W.heap.size W).alloc (Nat.le_refl _) (.cells #[.float .f64 x, .float .f64 y, .int .i32 z, .int .i16 s] 36))
  have HA := Lib.hid (haw.out _ B0.out)
  clear haw
  go_enter Tryz.func5, Tryz.ntmps5
  go_upto_region 2 with (go_at_call 9; refine HA.out.mono ?_; rintro e w1 ⟨rfl, hb⟩; have k : ∀ i, i < 4 → w1.cell? ⟨W.heap.size, i, none⟩ = (W.alloc (.cells #[.float .f64 x, .float .f64 y, .int .i32 z, .int .i16 s] 36)).cell? ⟨W.heap.size, i, none⟩ := fun i _ => hb.cell (p := ⟨W.heap.size, i, none⟩) (by simp); have I : Hid (TI W w1 z s) := Lib.hid ⟨B0.out.trans (hb.mono (by simp)), (k 2 (by decide)).trans (by simp [go_sem]), (k 3 (by decide)).trans (by simp [go_sem]), Nat.lt_of_lt_of_le (by simp) hb.size⟩; have k0 : w1.cell? ⟨W.heap.size, 0, none⟩ = some (.float .f64 x) := (k 0 (by decide)).trans (by simp [go_sem]); have k1 : w1.cell? ⟨W.heap.size, 1, none⟩ = some (.float .f64 y) := (k 1 (by decide)).trans (by simp [go_sem]); clear hb k)
  clear HA B0
  go_upto_region 12 with (first
    | (go_at_call 15; with_reducible refine (H.out.a1 _).mono ?_; rintro e w2 ⟨rfl, hb⟩; (first | replace I := Lib.hid (I.out.below hb) | replace I := Lib.hid ((I.out.drew _).below hb) | replace I := Lib.hid (((I.out.drew _).drew _).below hb)); clear hb)
    | (go_at_call 15; with_reducible refine (H.out.a2 _).mono ?_; rintro e w3 ⟨rfl, hb⟩; (first | replace I := Lib.hid (I.out.below hb) | replace I := Lib.hid ((I.out.drew _).below hb) | replace I := Lib.hid (((I.out.drew _).drew _).below hb)); clear hb)
    | (go_at_call 16; with_reducible refine (H.out.a3 _).mono ?_; rintro e w4 ⟨rfl, hb⟩; (first | replace I := Lib.hid (I.out.below hb) | replace I := Lib.hid ((I.out.drew _).below hb) | replace I := Lib.hid (((I.out.drew _).drew _).below hb)); clear hb)
    | (go_at_call 12; with_reducible refine (H.out.s1 _).mono ?_; rintro e w' ⟨rfl, rfl⟩)
    | (go_at_call 10; with_reducible refine (H.out.r1 _).mono ?_; rintro e w5 ⟨rfl, hb⟩; (first | replace I := Lib.hid (I.out.below hb) | replace I := Lib.hid ((I.out.drew _).below hb) | replace I := Lib.hid (((I.out.drew _).drew _).below hb)); clear hb)
    | (go_at_call 10; with_reducible refine (H.out.r2 _).mono ?_; rintro e w6 ⟨rfl, hb⟩; (first | replace I := Lib.hid (I.out.below hb) | replace I := Lib.hid ((I.out.drew _).below hb) | replace I := Lib.hid (((I.out.drew _).drew _).below hb)); clear hb)
    | (go_at_call 12; with_reducible refine (H.out.s2 _).mono ?_; rintro e w' ⟨rfl, rfl⟩)
    | (go_at_call 17; with_reducible refine (H.out.gr _).mono ?_; rintro e w' ⟨rfl, rfl⟩)
    | (go_at_call 17; with_reducible refine (H.out.gy _).mono ?_; rintro e w' ⟨rfl, rfl⟩)
    | (go_at_call 17; with_reducible refine (H.out.gm _).mono ?_; rintro e w' ⟨rfl, rfl⟩))
  have k2 := I.out.f2
  have k3 := I.out.f3
  clear ngr
  go_wp2_with (first
    | (go_at_call 10; with_reducible refine (H.out.r3 _).mono ?_; rintro e w7 ⟨rfl, hb⟩; (first | replace I := Lib.hid (I.out.below hb) | replace I := Lib.hid ((I.out.drew _).below hb) | replace I := Lib.hid (((I.out.drew _).drew _).below hb)); clear hb; have k4 := I.out.f3)
    | (go_at_call 10; with_reducible refine (H.out.r4 _).mono ?_; rintro e w8 ⟨rfl, hb⟩; (first | replace I := Lib.hid (I.out.below hb) | replace I := Lib.hid ((I.out.drew _).below hb) | replace I := Lib.hid (((I.out.drew _).drew _).below hb)); clear hb)
    | (go_at_call 12; with_reducible refine (H.out.s3 _).mono ?_; rintro e w' ⟨rfl, rfl⟩))
  go_ret
  exact ⟨rfl, I.out.l⟩

set_option maxRecDepth 100000 in
set_option maxHeartbeats 8000000 in
theorem turnD (W : World) (haw : Hid (∀ w, Below W.heap.size W w → Calls Tryz.prog 9 #[] w fun e w' => e = .returned (.bool true) ∧ Below w.heap.size w w')) {x y p r m u d e8z eIs v v2 : Nat} {z s : Int} (H : Hid (TC x y p r m u d e8z eIs v v2)) (cz : floatOfInt .f64 z = eI z) (cs : floatOfInt .f64 s = eIs) (q8 : ∀ w, (binOp .quo 22 (.float .f64 (eI z)) (.float .f64 4620693217682128896)).run Tryz.prog w = .ok (.float .f64 e8z) w) (orr : FloatKind.f64.format.order r r = some .eq) (orm : FloatKind.f64.format.order m m = some .eq) (hsub : ∀ w, (binOp .sub 22 (.float .f64 y) (.float .f64 y)).run Tryz.prog w = .ok (.float .f64 0) w) (o00 : FloatKind.f64.format.order 0 0 = some .eq) (hlt : FloatKind.f64.format.order (rg r) (rg y) = some .lt) (hle : (FloatKind.f64.format.order (rg m) (rg y) == some .lt || FloatKind.f64.format.order (rg m) (rg y) == some .eq) = true) (hm0 : FloatKind.f64.format.order m 0 = some .eq) :
    Calls Tryz.prog 5 #[.agg #[.float .f64 x, .float .f64 y, .int .i32 z, .int .i16 s]] W fun e w' => e = .returned (.bool true) ∧ Below W.heap.size W w' := by
  have ngr : ∀ (b : Nat) w, (Op.unary .neg (.float .f64 b)).run Tryz.prog w = .ok (.float .f64 (ng b)) w := fun b => ng_run b
  have B0 := Lib.hid ((Below.refl W.heap.size W).alloc (Nat.le_refl _) (.cells #[.float .f64 x, .float .f64 y, .int .i32 z, .int .i16 s] 36))
  have HA := Lib.hid (haw.out _ B0.out)
  clear haw
  go_enter Tryz.func5, Tryz.ntmps5
  go_upto_region 2 with (go_at_call 9; refine HA.out.mono ?_; rintro e w1 ⟨rfl, hb⟩; have k : ∀ i, i < 4 → w1.cell? ⟨W.heap.size, i, none⟩ = (W.alloc (.cells #[.float .f64 x, .float .f64 y, .int .i32 z, .int .i16 s] 36)).cell? ⟨W.heap.size, i, none⟩ := fun i _ => hb.cell (p := ⟨W.heap.size, i, none⟩) (by simp); have I : Hid (TI W w1 z s) := Lib.hid ⟨B0.out.trans (hb.mono (by simp)), (k 2 (by decide)).trans (by simp [go_sem]), (k 3 (by decide)).trans (by simp [go_sem]), Nat.lt_of_lt_of_le (by simp) hb.size⟩; have k0 : w1.cell? ⟨W.heap.size, 0, none⟩ = some (.float .f64 x) := (k 0 (by decide)).trans (by simp [go_sem]); have k1 : w1.cell? ⟨W.heap.size, 1, none⟩ = some (.float .f64 y) := (k 1 (by decide)).trans (by simp [go_sem]); clear hb k)
  clear HA B0
  go_upto_region 12 with (first
    | (go_at_call 15; with_reducible refine (H.out.a1 _).mono ?_; rintro e w2 ⟨rfl, hb⟩; (first | replace I := Lib.hid (I.out.below hb) | replace I := Lib.hid ((I.out.drew _).below hb) | replace I := Lib.hid (((I.out.drew _).drew _).below hb)); clear hb)
    | (go_at_call 15; with_reducible refine (H.out.a2 _).mono ?_; rintro e w3 ⟨rfl, hb⟩; (first | replace I := Lib.hid (I.out.below hb) | replace I := Lib.hid ((I.out.drew _).below hb) | replace I := Lib.hid (((I.out.drew _).drew _).below hb)); clear hb)
    | (go_at_call 16; with_reducible refine (H.out.a3 _).mono ?_; rintro e w4 ⟨rfl, hb⟩; (first | replace I := Lib.hid (I.out.below hb) | replace I := Lib.hid ((I.out.drew _).below hb) | replace I := Lib.hid (((I.out.drew _).drew _).below hb)); clear hb)
    | (go_at_call 12; with_reducible refine (H.out.s1 _).mono ?_; rintro e w' ⟨rfl, rfl⟩)
    | (go_at_call 10; with_reducible refine (H.out.r1 _).mono ?_; rintro e w5 ⟨rfl, hb⟩; (first | replace I := Lib.hid (I.out.below hb) | replace I := Lib.hid ((I.out.drew _).below hb) | replace I := Lib.hid (((I.out.drew _).drew _).below hb)); clear hb)
    | (go_at_call 10; with_reducible refine (H.out.r2 _).mono ?_; rintro e w6 ⟨rfl, hb⟩; (first | replace I := Lib.hid (I.out.below hb) | replace I := Lib.hid ((I.out.drew _).below hb) | replace I := Lib.hid (((I.out.drew _).drew _).below hb)); clear hb)
    | (go_at_call 12; with_reducible refine (H.out.s2 _).mono ?_; rintro e w' ⟨rfl, rfl⟩)
    | (go_at_call 17; with_reducible refine (H.out.gr _).mono ?_; rintro e w' ⟨rfl, rfl⟩)
    | (go_at_call 17; with_reducible refine (H.out.gy _).mono ?_; rintro e w' ⟨rfl, rfl⟩)
    | (go_at_call 17; with_reducible refine (H.out.gm _).mono ?_; rintro e w' ⟨rfl, rfl⟩))
  have k2 := I.out.f2
  have k3 := I.out.f3
  clear ngr
  go_wp2_with (first
    | (go_at_call 10; with_reducible refine (H.out.r3 _).mono ?_; rintro e w7 ⟨rfl, hb⟩; (first | replace I := Lib.hid (I.out.below hb) | replace I := Lib.hid ((I.out.drew _).below hb) | replace I := Lib.hid (((I.out.drew _).drew _).below hb)); clear hb; have k4 := I.out.f3)
    | (go_at_call 10; with_reducible refine (H.out.r4 _).mono ?_; rintro e w8 ⟨rfl, hb⟩; (first | replace I := Lib.hid (I.out.below hb) | replace I := Lib.hid ((I.out.drew _).below hb) | replace I := Lib.hid (((I.out.drew _).drew _).below hb)); clear hb)
    | (go_at_call 12; with_reducible refine (H.out.s3 _).mono ?_; rintro e w' ⟨rfl, rfl⟩))
  go_ret
  exact ⟨rfl, I.out.l⟩

set_option maxRecDepth 100000 in
set_option maxHeartbeats 8000000 in
theorem turnE (W : World) (haw : Hid (∀ w, Below W.heap.size W w → Calls Tryz.prog 9 #[] w fun e w' => e = .returned (.bool true) ∧ Below w.heap.size w w')) {x y p r m u d e8z eIs v v2 : Nat} {z s : Int} (H : Hid (TC x y p r m u d e8z eIs v v2)) (cz : floatOfInt .f64 z = eI z) (cs : floatOfInt .f64 s = eIs) (q8 : ∀ w, (binOp .quo 22 (.float .f64 (eI z)) (.float .f64 4620693217682128896)).run Tryz.prog w = .ok (.float .f64 e8z) w) (orr : FloatKind.f64.format.order r r = some .eq) (orm : FloatKind.f64.format.order m m = some .eq) (hsub : ∀ w, (binOp .sub 22 (.float .f64 y) (.float .f64 y)).run Tryz.prog w = .ok (.float .f64 0) w) (o00 : FloatKind.f64.format.order 0 0 = some .eq) (hlt : FloatKind.f64.format.order (rg r) (rg y) = some .lt) (hle : (FloatKind.f64.format.order (rg m) (rg y) == some .lt || FloatKind.f64.format.order (rg m) (rg y) == some .eq) = true) (hm0 : (FloatKind.f64.format.order m 0 == some .eq) = false) (hsm : (FloatKind.f64.format.order m 0 == some .lt) = sg y) (hsy : (FloatKind.f64.format.order y 0 == some .lt) = sg y) :
    Calls Tryz.prog 5 #[.agg #[.float .f64 x, .float .f64 y, .int .i32 z, .int .i16 s]] W fun e w' => e = .returned (.bool true) ∧ Below W.heap.size W w' := by
  have ngr : ∀ (b : Nat) w, (Op.unary .neg (.float .f64 b)).run Tryz.prog w = .ok (.float .f64 (ng b)) w := fun b => ng_run b
  have B0 := Lib.hid ((Below.refl W.heap.size W).alloc (Nat.le_refl _) (.cells #[.float .f64 x, .float .f64 y, .int .i32 z, .int .i16 s] 36))
  have HA := Lib.hid (haw.out _ B0.out)
  clear haw
  go_enter Tryz.func5, Tryz.ntmps5
  go_upto_region 2 with (go_at_call 9; refine HA.out.mono ?_; rintro e w1 ⟨rfl, hb⟩; have k : ∀ i, i < 4 → w1.cell? ⟨W.heap.size, i, none⟩ = (W.alloc (.cells #[.float .f64 x, .float .f64 y, .int .i32 z, .int .i16 s] 36)).cell? ⟨W.heap.size, i, none⟩ := fun i _ => hb.cell (p := ⟨W.heap.size, i, none⟩) (by simp); have I : Hid (TI W w1 z s) := Lib.hid ⟨B0.out.trans (hb.mono (by simp)), (k 2 (by decide)).trans (by simp [go_sem]), (k 3 (by decide)).trans (by simp [go_sem]), Nat.lt_of_lt_of_le (by simp) hb.size⟩; have k0 : w1.cell? ⟨W.heap.size, 0, none⟩ = some (.float .f64 x) := (k 0 (by decide)).trans (by simp [go_sem]); have k1 : w1.cell? ⟨W.heap.size, 1, none⟩ = some (.float .f64 y) := (k 1 (by decide)).trans (by simp [go_sem]); clear hb k)
  clear HA B0
  go_upto_region 12 with (first
    | (go_at_call 15; with_reducible refine (H.out.a1 _).mono ?_; rintro e w2 ⟨rfl, hb⟩; (first | replace I := Lib.hid (I.out.below hb) | replace I := Lib.hid ((I.out.drew _).below hb) | replace I := Lib.hid (((I.out.drew _).drew _).below hb)); clear hb)
    | (go_at_call 15; with_reducible refine (H.out.a2 _).mono ?_; rintro e w3 ⟨rfl, hb⟩; (first | replace I := Lib.hid (I.out.below hb) | replace I := Lib.hid ((I.out.drew _).below hb) | replace I := Lib.hid (((I.out.drew _).drew _).below hb)); clear hb)
    | (go_at_call 16; with_reducible refine (H.out.a3 _).mono ?_; rintro e w4 ⟨rfl, hb⟩; (first | replace I := Lib.hid (I.out.below hb) | replace I := Lib.hid ((I.out.drew _).below hb) | replace I := Lib.hid (((I.out.drew _).drew _).below hb)); clear hb)
    | (go_at_call 12; with_reducible refine (H.out.s1 _).mono ?_; rintro e w' ⟨rfl, rfl⟩)
    | (go_at_call 10; with_reducible refine (H.out.r1 _).mono ?_; rintro e w5 ⟨rfl, hb⟩; (first | replace I := Lib.hid (I.out.below hb) | replace I := Lib.hid ((I.out.drew _).below hb) | replace I := Lib.hid (((I.out.drew _).drew _).below hb)); clear hb)
    | (go_at_call 10; with_reducible refine (H.out.r2 _).mono ?_; rintro e w6 ⟨rfl, hb⟩; (first | replace I := Lib.hid (I.out.below hb) | replace I := Lib.hid ((I.out.drew _).below hb) | replace I := Lib.hid (((I.out.drew _).drew _).below hb)); clear hb)
    | (go_at_call 12; with_reducible refine (H.out.s2 _).mono ?_; rintro e w' ⟨rfl, rfl⟩)
    | (go_at_call 17; with_reducible refine (H.out.gr _).mono ?_; rintro e w' ⟨rfl, rfl⟩)
    | (go_at_call 17; with_reducible refine (H.out.gy _).mono ?_; rintro e w' ⟨rfl, rfl⟩)
    | (go_at_call 17; with_reducible refine (H.out.gm _).mono ?_; rintro e w' ⟨rfl, rfl⟩))
  have k2 := I.out.f2
  have k3 := I.out.f3
  clear ngr
  go_wp2_with (first
    | (go_at_call 10; with_reducible refine (H.out.r3 _).mono ?_; rintro e w7 ⟨rfl, hb⟩; (first | replace I := Lib.hid (I.out.below hb) | replace I := Lib.hid ((I.out.drew _).below hb) | replace I := Lib.hid (((I.out.drew _).drew _).below hb)); clear hb; have k4 := I.out.f3)
    | (go_at_call 10; with_reducible refine (H.out.r4 _).mono ?_; rintro e w8 ⟨rfl, hb⟩; (first | replace I := Lib.hid (I.out.below hb) | replace I := Lib.hid ((I.out.drew _).below hb) | replace I := Lib.hid (((I.out.drew _).drew _).below hb)); clear hb)
    | (go_at_call 12; with_reducible refine (H.out.s3 _).mono ?_; rintro e w' ⟨rfl, rfl⟩))
  go_ret
  exact ⟨rfl, I.out.l⟩

end Go.Proofs.YthohhepoddnbnaaGreatDoor

namespace Go.Proofs.YthohhepoddnbnaaGreatDoor
open Go.RowKit Fl

set_option maxRecDepth 100000 in
set_option maxHeartbeats 2000000 in
theorem walkCalcRounds (W : World) (hL : laidMetH Tryz.prog Rows.calcRoundsRow.laid W) (s : ByteArray) (x : Nat) (wx : (Lit.float .f64 x).wf = true) (y : Nat) (wy : (Lit.float .f64 y).wf = true) :
    Calls Tryz.prog 3 #[.string s, .float .f64 x, .float .f64 y] W fun e w' => e = .returned (.bool true) ∧ Below W.heap.size W w' := by
  have hx := U_wf wx
  have hy := U_wf wy
  have haw := Lib.hid (awake_ok (handle_of_laid rfl hL))
  by_cases hk : WKi s = 4
  · have C10 := Lib.hid (fun w => lRound4 s x y w hk)
    have C11 := Lib.hid (fun w => rRound4 s x y w hk)
    have U0 : U 0 := U_0
    have S := Lib.hid (fun w => sameS 0 0 w U0 U0 rfl)
    clear hL hx hy wx wy hk U0
    go_enter Tryz.func3, Tryz.ntmps3
    go_wp2_with (first
      | (go_at_call 9; refine haw.out.mono ?_; rintro e w1 ⟨rfl, hb⟩; have I := Lib.hid hb; clear hb)
      | (go_at_call 10; refine (C10.out _).mono ?_; rintro e w' ⟨rfl, rfl⟩)
      | (go_at_call 11; refine (C11.out _).mono ?_; rintro e w' ⟨rfl, rfl⟩)
      | (go_at_call 12; refine (S.out _).mono ?_; rintro e w' ⟨rfl, rfl⟩))
    go_ret
    exact ⟨rfl, I.out⟩
  · have C10 := Lib.hid (fun w => lRoundW s x y w hx hy hk)
    have C11 := Lib.hid (fun w => rRoundW s x y w hx hy hk)
    have U1 := Lib.hid (U_round (WKi s) y hx)
    clear hL hx hy wx wy hk
    go_enter Tryz.func3, Tryz.ntmps3
    go_wp2_with (first
      | (go_at_call 9; refine haw.out.mono ?_; rintro e w1 ⟨rfl, hb⟩; have I := Lib.hid hb; clear hb)
      | (go_at_call 10; refine (C10.out _).mono ?_; rintro e w2 ⟨rfl, hb⟩; replace I := Lib.hid (I.out.trans (hb.mono I.out.size)); clear hb)
      | (go_at_call 11; refine (C11.out _).mono ?_; rintro e w3 ⟨⟨r1, rfl, hr, hp⟩, hb⟩; replace I := Lib.hid (I.out.trans (hb.mono I.out.size)); have S := Lib.hid (fun w => sameS _ _ w U1.out hr hp); clear hb hr hp)
      | (go_at_call 12; refine (S.out _).mono ?_; rintro e w' ⟨rfl, rfl⟩))
    go_ret
    exact ⟨rfl, I.out⟩
theorem walkCalcRounds2 (W : World) (hL : laidMetH Tryz.prog Rows.calcRoundsRow.laid W) (s : ByteArray) {p : Prop} (_ : p) (x : Nat) (wx : (Lit.float .f64 x).wf = true) (y : Nat) (wy : (Lit.float .f64 y).wf = true) :
    Calls Tryz.prog 3 #[.string s, .float .f64 x, .float .f64 y] W fun e w' => e = .returned (.bool true) ∧ Below W.heap.size W w' := walkCalcRounds W hL s x wx y wy
end Go.Proofs.YthohhepoddnbnaaGreatDoor

namespace Go.Proofs.YthohhepoddnbnaaGreatDoor
open Go.RowKit Fl

theorem w_up : WKi ⟨#[117, 112]⟩ = 1 := by decide +kernel
theorem w_down : WKi ⟨#[100, 111, 119, 110]⟩ = 2 := by decide +kernel
theorem w_near : WKi ⟨#[110, 101, 97, 114, 101, 115, 116]⟩ = 0 := by decide +kernel
theorem isN_word (s : Bool) (N : Nat) : isN (word s (rnd N)) = false := by
  have := rnd_le N
  unfold isN
  rw [rg_word _ _ (rnd_lt N)]
  exact decide_eq_false (by omega)
theorem rnd_modN (x y : Nat) (hf : rg y < INF) (h0 : 0 < Fl.val 52 (rg y)) : rnd (modN x y) ≤ rg y := by
  refine mod_small _ _ ?_ (Nat.le_of_lt hf)
  have := Nat.mod_lt (Fl.val 52 (rg x)) h0
  unfold modN
  split <;> omega
theorem fop_none {op : BinOp} {x y : Nat} (h : floatBits op .f64 x y = none) (w : World) : isN (fop op x y w) = true := by
  unfold fop
  rw [h]
  exact (nanBits_cut _ _ _).2
theorem walkCalcTurns (W : World) (hL : laidMetH Tryz.prog Rows.calcTurnsRow.laid W) (x : Nat) (hx : U x) (y : Nat) (hy : U y) (z : Int) (hz : -2147483648 ≤ z ∧ z ≤ 2147483647) (s : Int) (hs : -32768 ≤ s ∧ s ≤ 32767) :
    Calls Tryz.prog 5 #[.agg #[.float .f64 x, .float .f64 y, .int .i32 z, .int .i16 s]] W fun e w' => e = .returned (.bool true) ∧ Below W.heap.size W w' := by
  have hg := handle_of_laid rfl hL
  have haw : Hid (∀ w, Below W.heap.size W w → Calls Tryz.prog 9 #[] w fun e w' => e = .returned (.bool true) ∧ Below w.heap.size w w') := Lib.hid fun w hb => by
    refine awake_ok ?_
    refine (hb.cell (p := ⟨1, 0, none⟩) ?_).trans hg
    by_cases c : 1 < W.heap.size
    · exact c
    · have : W.heap[1]? = none := Array.getElem?_eq_none (by omega)
      unfold World.cell? at hg
      simp only [this] at hg
      cases hg
  obtain ⟨f5, f6, f7⟩ := five_turn z s (by omega) (by omega)
  have hu := U_round (x := x) 1 y hx
  have hd := U_round (x := ng x) 2 y (U_ng hx)
  have hv := U_round (x := e8 z) 0 (eI s) f6
  have hv2 := U_round (x := roundW 0 (e8 z) (eI s)) 0 (eI s) hv
  have hr := U_remW (x := x) y hx
  have hp := U_remW (x := ng x) y (U_ng hx)
  have hm := U_modW (x := x) y hx
  have q8 := e8_quo z (by omega)
  have q8' : ∀ w, (binOp .quo 22 (.float .f64 (eI z)) (.float .f64 4620693217682128896)).run Tryz.prog w = .ok (.float .f64 (e8 z)) w := fun w => run_float_arith w .quo 22 .f64 _ _ _ q8
  have H : TC x y (remW (ng x) y) (remW x y) (modW x y) (roundW 1 x y) (roundW 2 (ng x) y) (e8 z) (eI s) (roundW 0 (e8 z) (eI s)) (roundW 0 (roundW 0 (e8 z) (eI s)) (eI s)) := {
    a1 := fun w => lRemW (ng x) y w (U_ng hx) hy
    a2 := fun w => lRemW x y w hx hy
    a3 := fun w => lModW x y w hx hy
    s1 := fun w => sameS _ _ w hp (U_ng hr) (rem_turn x y hx)
    r1 := fun w => by
      have := lRoundW ⟨#[117, 112]⟩ x y w hx hy (by rw [w_up]; decide)
      rw [w_up] at this
      exact this
    r2 := fun w => by
      have := lRoundW ⟨#[100, 111, 119, 110]⟩ (ng x) y w (U_ng hx) hy (by rw [w_down]; decide)
      rw [w_down] at this
      exact this
    s2 := fun w => sameS _ _ w hu (U_ng hd) (round_turn x y hx)
    r3 := fun w => by
      have := lRoundW ⟨#[110, 101, 97, 114, 101, 115, 116]⟩ (e8 z) (eI s) w f6 f7 (by rw [w_near]; decide)
      rw [w_near] at this
      exact this
    r4 := fun w => by
      have := lRoundW ⟨#[110, 101, 97, 114, 101, 115, 116]⟩ (roundW 0 (e8 z) (eI s)) (eI s) w hv f7 (by rw [w_near]; decide)
      rw [w_near] at this
      exact this
    s3 := fun w => sameS _ _ w hv hv2 f5
    gr := fun w => c171 _ w hr
    gy := fun w => c171 _ w hy
    gm := fun w => c171 _ w hm }
  have H := Lib.hid H
  have cz := float_eI z
  have cs := float_eI s
  have oN : FloatKind.f64.format.order QN QN = none := by rw [ord_self QN U_QN, isN_QN]; rfl
  by_cases h : remN x y
  · have e1 : remW x y = QN := if_pos h
    have e2 : modW x y = QN := if_pos h
    rw [e1, e2] at H
    exact turnA W haw H cz cs q8' oN oN
  · have h1 : isN x = false := by cases e : isN x; rfl; exact absurd (.inl e) h
    have h2 : isN y = false := by cases e : isN y; rfl; exact absurd (.inr (.inl e)) h
    have h4 : ¬ FloatKind.f64.format.order y 0 = some .eq := fun e => h (.inr (.inr (.inr e)))
    have ox : FloatKind.f64.format.order x x = some .eq := by rw [ord_self x hx, h1]; rfl
    by_cases hi : isI y = true
    · have hf : fin y = false := by
        unfold isI at hi
        have := of_decide_eq_true hi
        unfold fin INF
        exact decide_eq_false (by omega)
      have fb := sub_self_inf y hy hf
      have hsub : ∀ w, (binOp .sub 22 (.float .f64 y) (.float .f64 y)).run Tryz.prog w = .ok (.float .f64 (fop .sub y y w)) (w.drewN 1) := fun w => by
        have := run_fop (P := Tryz.prog) .sub rfl 22 y y w
        unfold fopN at this
        rw [fb] at this
        exact this
      have hsn : ∀ w, FloatKind.f64.format.order (fop .sub y y w) 0 = none := fun w => by
        rw [f64_order _ 0 (U_fop _ _ _ _) U_0, fop_none fb w]; rfl
      have e1 : remW x y = x := by unfold remW; rw [if_neg h, if_pos hi]
      by_cases hsg : sg x = sg y
      · have e2 : modW x y = x := by unfold modW; rw [if_neg h, if_pos hi, if_pos hsg]
        rw [e1, e2] at H
        exact turnB W haw H cz cs q8' ox ox hsub hsn
      · have e2 : modW x y = QN := by unfold modW; rw [if_neg h, if_pos hi, if_neg hsg]
        rw [e1, e2] at H
        exact turnC W haw H cz cs q8' ox oN hsub hsn
    · have fy : rg y < INF := by
        have := fin_of y h2 (Bool.eq_false_iff.2 hi)
        unfold INF; exact this
      have r0 : rg y ≠ 0 := fun e => h4 (order_zero y hy h2 e)
      have v0 : 0 < Fl.val 52 (rg y) := by rw [val_parts]; exact Nat.mul_pos (pM_pos (rg y) r0) (Nat.two_pow_pos _)
      have e1 : remW x y = word (sg x) (rnd (Fl.val 52 (rg x) % Fl.val 52 (rg y))) := by unfold remW; rw [if_neg h, if_neg hi]; rfl
      have e2 : modW x y = word (sg y) (rnd (modN x y)) := by unfold modW; rw [if_neg h, if_neg hi]; rfl
      have g1 := rem_small (rg x) (rg y) v0 fy
      have g2 := rnd_modN x y fy v0
      have k1 : rg (remW x y) = rnd (Fl.val 52 (rg x) % Fl.val 52 (rg y)) := by rw [e1]; exact rg_word _ _ (rnd_lt _)
      have k2 : rg (modW x y) = rnd (modN x y) := by rw [e2]; exact rg_word _ _ (rnd_lt _)
      have n1 : isN (remW x y) = false := by rw [e1]; exact isN_word _ _
      have n2 : isN (modW x y) = false := by rw [e2]; exact isN_word _ _
      have orr : FloatKind.f64.format.order (remW x y) (remW x y) = some .eq := by rw [ord_self _ hr, n1]; rfl
      have orm : FloatKind.f64.format.order (modW x y) (modW x y) = some .eq := by rw [ord_self _ hm, n2]; rfl
      have hsub : ∀ w, (binOp .sub 22 (.float .f64 y) (.float .f64 y)).run Tryz.prog w = .ok (.float .f64 0) w := fun w => run_float_arith w .sub 22 .f64 y y 0 (sub_self_fin y hy (decide_eq_true fy))
      have o00 : FloatKind.f64.format.order 0 0 = some .eq := by rw [ord_self 0 U_0]; decide
      have hlt : FloatKind.f64.format.order (rg (remW x y)) (rg y) = some .lt := by
        rw [k1, order_rg _ _ (Nat.lt_trans g1 fy) fy, if_pos g1]
      have hle : (FloatKind.f64.format.order (rg (modW x y)) (rg y) == some .lt || FloatKind.f64.format.order (rg (modW x y)) (rg y) == some .eq) = true := by
        rw [k2, order_rg _ _ (Nat.lt_of_le_of_lt g2 fy) fy]
        rcases Nat.lt_or_eq_of_le g2 with c | c
        · rw [if_pos c]; rfl
        · rw [if_neg (by omega), if_pos c]; rfl
      by_cases hm0 : rg (modW x y) = 0
      · exact turnD W haw H cz cs q8' orr orm hsub o00 hlt hle (order_zero _ hm n2 hm0)
      · refine turnE W haw H cz cs q8' orr orm hsub o00 hlt hle (beq_eq_false_iff_ne.2 fun e => hm0 ((order_zero_iff _ hm n2).1 e)) ?_ (neg_order y hy h2 r0)
        rw [neg_order _ hm n2 hm0, e2, sg_word _ _ (rnd_lt _)]
end Go.Proofs.YthohhepoddnbnaaGreatDoor
