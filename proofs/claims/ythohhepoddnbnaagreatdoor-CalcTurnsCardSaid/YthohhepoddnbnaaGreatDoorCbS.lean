/- calc.Round of numbers (printed by gen_cbs.py). -/
import Derived.Test.YthohhepoddnbnaaGreatDoorMgCbQ
import Derived.Test.YthohhepoddnbnaaGreatDoorMgCbL
import Derived.Test.YthohhepoddnbnaaGreatDoorLgN
namespace Go.Proofs.YthohhepoddnbnaaGreatDoor
open Go.RowKit Fl

/-- what Round's calls answer of two numbers -/
structure RC1 (x y A B : Nat) (E : Int) : Prop where
  c1 : ∀ w, Calls Tryz.prog 34 #[.float .f64 x] w fun e w' => e = .returned (.bool false) ∧ w = w'
  c2 : ∀ w, Calls Tryz.prog 34 #[.float .f64 y] w fun e w' => e = .returned (.bool false) ∧ w = w'
  c3 : ∀ w, Calls Tryz.prog 35 #[.float .f64 x, .int .i64 0] w fun e w' => e = .returned (.bool false) ∧ w = w'
  c4 : ∀ w, Calls Tryz.prog 35 #[.float .f64 y, .int .i64 0] w fun e w' => e = .returned (.bool false) ∧ w = w'
  cb : ∀ w : World, Calls Tryz.prog 38 #[.float .f64 x, .float .f64 y] w fun e w' => Below w.heap.size w w' ∧ ∃ v u, e = .returned (.tuple #[v, u, .int .i64 E]) ∧ NV w' v A ∧ NV w' u B
  cq : ∀ (w : World) v u, NV w v A → NV w u B → Calls Tryz.prog 39 #[v, u] w fun e w' => Below w.heap.size w w' ∧ ∃ v1 v2, e = .returned (.tuple #[v1, v2]) ∧ NV w' v1 (A / B) ∧ NV w' v2 (A % B)
  cl : ∀ (w : World) v, NV w v (A % B) → Calls Tryz.prog 40 #[v, .int .i64 1] w fun e w' => Below w.heap.size w w' ∧ ∃ v', e = .returned v' ∧ NV w' v' (A % B * 2)
  co : ∀ w : World, Calls Tryz.prog 43 #[.int .u64 1] w fun e w' => Below w.heap.size w w' ∧ ∃ v, e = .returned v ∧ NV w' v 1
  ca : ∀ (w : World) v u, NV w v (A / B) → NV w u 1 → Calls Tryz.prog 42 #[v, u] w fun e w' => Below w.heap.size w w' ∧ ∃ v', e = .returned v' ∧ NV w' v' (A / B + 1)
theorem NV.drewn {w : World} {v : Value} {n : Nat} (h : NV w v n) (k : Nat) : NV (w.drewN k) v n := h.drew k

set_option maxRecDepth 100000 in
set_option maxHeartbeats 2000000 in
theorem lRz {s : ByteArray} {x y A B : Nat} {E : Int} (w : World) (K : Hid (∀ w, Calls Tryz.prog 33 #[.string s] w fun e w' => e = .returned (.bool true) ∧ w = w')) (H : Hid (RC1 x y A B E)) (h5 : (FloatKind.f64.format.order y 0 == some .eq) = false) (hz : A % B = 0) :
    Calls Tryz.prog 10 #[.string s, .float .f64 x, .float .f64 y] w fun e w' => e = .returned (.tuple #[.float .f64 x, .int .i64 0]) ∧ Below w.heap.size w w' := by
  have HZ := Lib.hid hz
  clear hz
  go_enter Tryz.func10, Tryz.ntmps10
  go_wp2_with (first
    | (go_at_call 33; with_reducible refine (K.out _).mono ?_; rintro e w' ⟨rfl, rfl⟩)
    | (go_at_call 34; with_reducible refine (H.out.c1 _).mono ?_; rintro e w' ⟨rfl, rfl⟩)
    | (go_at_call 34; with_reducible refine (H.out.c2 _).mono ?_; rintro e w' ⟨rfl, rfl⟩)
    | (go_at_call 35; with_reducible refine (H.out.c3 _).mono ?_; rintro e w' ⟨rfl, rfl⟩)
    | (go_at_call 35; with_reducible refine (H.out.c4 _).mono ?_; rintro e w' ⟨rfl, rfl⟩)
    | (go_at_call 38; refine (H.out.cb _).mono ?_; rintro e w1 ⟨hb1, v, u, rfl, hv, hu⟩; have I := Lib.hid (And.intro hb1 (And.intro hv hu)); clear hb1 hv hu)
    | (go_at_call 39; refine (H.out.cq _ _ _ I.out.2.1 I.out.2.2).mono ?_; rintro e w2 ⟨hb2, v1, v2, rfl, _, hv2⟩; obtain ⟨A', m, c', rfl, hm⟩ := hv2.len; have hm0 : m = 0 := hm.2 HZ.out; subst hm0; have J := Lib.hid (I.out.1.trans (hb2.mono I.out.1.size)); clear hb2 hv2 hm))
  go_ret2
  exact ⟨rfl, J.out⟩

set_option maxRecDepth 100000 in
set_option maxHeartbeats 2000000 in
theorem lR0ng {s : ByteArray} {x y A B z : Nat} {E : Int} (w : World) (n0 : (s.toList == [110, 101, 97, 114, 101, 115, 116]) = true) (n1 : (s.toList == [117, 112]) = false) (n2 : (s.toList == [100, 111, 119, 110]) = false) (n3 : (s.toList == [116, 111, 45, 122, 101, 114, 111]) = false) (K : Hid (∀ w, Calls Tryz.prog 33 #[.string s] w fun e w' => e = .returned (.bool true) ∧ w = w')) (H : Hid (RC1 x y A B E)) (h5 : (FloatKind.f64.format.order y 0 == some .eq) = false) (ng : (FloatKind.f64.format.order x 0 == some .lt) = true) (HZ : Hid (A % B ≠ 0))
    (CC : Hid (∀ (w : World) v u, NV w v (A % B * 2) → NV w u B → Calls Tryz.prog 41 #[v, u] w fun e w' => (∃ r : Int, e = .returned (.int .i64 r) ∧ 0 < r) ∧ ∃ n, w' = w.drewN n))
    (CM : Hid (∀ (w : World) v u, NV w v (A / B + 1) → NV w u B → Calls Tryz.prog 45 #[v, u] w fun e w' => Below w.heap.size w w' ∧ ∃ v', e = .returned v' ∧ NV w' v' ((A / B + 1) * B)))
    (CN : Hid (∀ (w : World) v, NV w v ((A / B + 1) * B) → Calls Tryz.prog 44 #[v, .int .i64 E, .bool true] w fun e w' => e = .returned (.float .f64 z) ∧ Below w.heap.size w w')) :
    Calls Tryz.prog 10 #[.string s, .float .f64 x, .float .f64 y] w fun e w' => e = .returned (.tuple #[.float .f64 z, .int .i64 0]) ∧ Below w.heap.size w w' := by
  go_enter Tryz.func10, Tryz.ntmps10
  go_wp2_with (first
    | (go_at_call 33; with_reducible refine (K.out _).mono ?_; rintro e w' ⟨rfl, rfl⟩)
    | (go_at_call 34; with_reducible refine (H.out.c1 _).mono ?_; rintro e w' ⟨rfl, rfl⟩)
    | (go_at_call 34; with_reducible refine (H.out.c2 _).mono ?_; rintro e w' ⟨rfl, rfl⟩)
    | (go_at_call 35; with_reducible refine (H.out.c3 _).mono ?_; rintro e w' ⟨rfl, rfl⟩)
    | (go_at_call 35; with_reducible refine (H.out.c4 _).mono ?_; rintro e w' ⟨rfl, rfl⟩)
    | (go_at_call 38; refine (H.out.cb _).mono ?_; rintro e w1 ⟨hb1, v, u, rfl, hv, hu⟩; have I := Lib.hid (And.intro hb1 (And.intro hv hu)); clear hb1 hv hu)
    | (go_at_call 39; refine (H.out.cq _ _ _ I.out.2.1 I.out.2.2).mono ?_; rintro e w2 ⟨hb2, v1, v2, rfl, hv1, hv2⟩; have J := Lib.hid (And.intro (I.out.1.trans (hb2.mono I.out.1.size)) (And.intro hv1 (And.intro hv2 (I.out.2.2.below hb2)))); obtain ⟨A', m, c', rfl, hm⟩ := hv2.len; have hm0 : 0 < m := Nat.pos_of_ne_zero (fun e => HZ.out (hm.1 e)); clear hb2 hv1 hv2 hm)
    | (go_at_call 40; refine (H.out.cl _ _ J.out.2.2.1).mono ?_; rintro e w3 ⟨hb3, v3, rfl, hv3⟩; have L := Lib.hid (And.intro (J.out.1.trans (hb3.mono J.out.1.size)) (And.intro (J.out.2.1.below hb3) (And.intro hv3 (J.out.2.2.2.below hb3)))); clear hb3 hv3)
    | (go_at_call 41; refine (CC.out _ _ _ L.out.2.2.1 L.out.2.2.2).mono ?_; rintro e w4 ⟨⟨r, rfl, hr⟩, n, rfl⟩; have hr2 : ¬ r = 0 := (by omega); have M := Lib.hid (And.intro (BdN L.out.1 n) (And.intro (L.out.2.1.drewn n) (L.out.2.2.2.drewn n))))
    | (go_at_call 43; refine (H.out.co _).mono ?_; rintro e w5 ⟨hb5, v5, rfl, hv5⟩; replace M := Lib.hid (And.intro (M.out.1.trans (hb5.mono M.out.1.size)) (And.intro (M.out.2.1.below hb5) (M.out.2.2.below hb5))); have G := Lib.hid hv5; clear hb5 hv5)
    | (go_at_call 42; refine (H.out.ca _ _ _ M.out.2.1 G.out).mono ?_; rintro e w6 ⟨hb6, v6, rfl, hv6⟩; replace M := Lib.hid (And.intro (M.out.1.trans (hb6.mono M.out.1.size)) (And.intro hv6 (M.out.2.2.below hb6))); clear hb6 hv6)
    | (go_at_call 45; refine (CM.out _ _ _ M.out.2.1 M.out.2.2).mono ?_; rintro e w7 ⟨hb7, v7, rfl, hv7⟩; have N := Lib.hid (And.intro (M.out.1.trans (hb7.mono M.out.1.size)) hv7); clear hb7 hv7)
    | (go_at_call 44; refine (CN.out _ _ N.out.2).mono ?_; rintro e w8 ⟨rfl, hb8⟩; have O := Lib.hid (N.out.1.trans (hb8.mono N.out.1.size)); clear hb8))
  go_ret2
  exact ⟨rfl, O.out⟩

set_option maxRecDepth 100000 in
set_option maxHeartbeats 2000000 in
theorem lR0ne {s : ByteArray} {x y A B z : Nat} {E : Int} (w : World) (n0 : (s.toList == [110, 101, 97, 114, 101, 115, 116]) = true) (n1 : (s.toList == [117, 112]) = false) (n2 : (s.toList == [100, 111, 119, 110]) = false) (n3 : (s.toList == [116, 111, 45, 122, 101, 114, 111]) = false) (K : Hid (∀ w, Calls Tryz.prog 33 #[.string s] w fun e w' => e = .returned (.bool true) ∧ w = w')) (H : Hid (RC1 x y A B E)) (h5 : (FloatKind.f64.format.order y 0 == some .eq) = false) (ng : (FloatKind.f64.format.order x 0 == some .lt) = true) (HZ : Hid (A % B ≠ 0))
    (CC : Hid (∀ (w : World) v u, NV w v (A % B * 2) → NV w u B → Calls Tryz.prog 41 #[v, u] w fun e w' => (e = .returned (.int .i64 0)) ∧ ∃ n, w' = w.drewN n))
    (CM : Hid (∀ (w : World) v u, NV w v (A / B) → NV w u B → Calls Tryz.prog 45 #[v, u] w fun e w' => Below w.heap.size w w' ∧ ∃ v', e = .returned v' ∧ NV w' v' ((A / B) * B)))
    (CN : Hid (∀ (w : World) v, NV w v ((A / B) * B) → Calls Tryz.prog 44 #[v, .int .i64 E, .bool true] w fun e w' => e = .returned (.float .f64 z) ∧ Below w.heap.size w w')) :
    Calls Tryz.prog 10 #[.string s, .float .f64 x, .float .f64 y] w fun e w' => e = .returned (.tuple #[.float .f64 z, .int .i64 0]) ∧ Below w.heap.size w w' := by
  go_enter Tryz.func10, Tryz.ntmps10
  go_wp2_with (first
    | (go_at_call 33; with_reducible refine (K.out _).mono ?_; rintro e w' ⟨rfl, rfl⟩)
    | (go_at_call 34; with_reducible refine (H.out.c1 _).mono ?_; rintro e w' ⟨rfl, rfl⟩)
    | (go_at_call 34; with_reducible refine (H.out.c2 _).mono ?_; rintro e w' ⟨rfl, rfl⟩)
    | (go_at_call 35; with_reducible refine (H.out.c3 _).mono ?_; rintro e w' ⟨rfl, rfl⟩)
    | (go_at_call 35; with_reducible refine (H.out.c4 _).mono ?_; rintro e w' ⟨rfl, rfl⟩)
    | (go_at_call 38; refine (H.out.cb _).mono ?_; rintro e w1 ⟨hb1, v, u, rfl, hv, hu⟩; have I := Lib.hid (And.intro hb1 (And.intro hv hu)); clear hb1 hv hu)
    | (go_at_call 39; refine (H.out.cq _ _ _ I.out.2.1 I.out.2.2).mono ?_; rintro e w2 ⟨hb2, v1, v2, rfl, hv1, hv2⟩; have J := Lib.hid (And.intro (I.out.1.trans (hb2.mono I.out.1.size)) (And.intro hv1 (And.intro hv2 (I.out.2.2.below hb2)))); obtain ⟨A', m, c', rfl, hm⟩ := hv2.len; have hm0 : 0 < m := Nat.pos_of_ne_zero (fun e => HZ.out (hm.1 e)); clear hb2 hv1 hv2 hm)
    | (go_at_call 40; refine (H.out.cl _ _ J.out.2.2.1).mono ?_; rintro e w3 ⟨hb3, v3, rfl, hv3⟩; have L := Lib.hid (And.intro (J.out.1.trans (hb3.mono J.out.1.size)) (And.intro (J.out.2.1.below hb3) (And.intro hv3 (J.out.2.2.2.below hb3)))); clear hb3 hv3)
    | (go_at_call 41; refine (CC.out _ _ _ L.out.2.2.1 L.out.2.2.2).mono ?_; rintro e w4 ⟨rfl, n, rfl⟩; have M := Lib.hid (And.intro (BdN L.out.1 n) (And.intro (L.out.2.1.drewn n) (L.out.2.2.2.drewn n))))
    | (go_at_call 45; refine (CM.out _ _ _ M.out.2.1 M.out.2.2).mono ?_; rintro e w7 ⟨hb7, v7, rfl, hv7⟩; have N := Lib.hid (And.intro (M.out.1.trans (hb7.mono M.out.1.size)) hv7); clear hb7 hv7)
    | (go_at_call 44; refine (CN.out _ _ N.out.2).mono ?_; rintro e w8 ⟨rfl, hb8⟩; have O := Lib.hid (N.out.1.trans (hb8.mono N.out.1.size)); clear hb8))
  go_ret2
  exact ⟨rfl, O.out⟩

set_option maxRecDepth 100000 in
set_option maxHeartbeats 2000000 in
theorem lR0nl {s : ByteArray} {x y A B z : Nat} {E : Int} (w : World) (n0 : (s.toList == [110, 101, 97, 114, 101, 115, 116]) = true) (n1 : (s.toList == [117, 112]) = false) (n2 : (s.toList == [100, 111, 119, 110]) = false) (n3 : (s.toList == [116, 111, 45, 122, 101, 114, 111]) = false) (K : Hid (∀ w, Calls Tryz.prog 33 #[.string s] w fun e w' => e = .returned (.bool true) ∧ w = w')) (H : Hid (RC1 x y A B E)) (h5 : (FloatKind.f64.format.order y 0 == some .eq) = false) (ng : (FloatKind.f64.format.order x 0 == some .lt) = true) (HZ : Hid (A % B ≠ 0))
    (CC : Hid (∀ (w : World) v u, NV w v (A % B * 2) → NV w u B → Calls Tryz.prog 41 #[v, u] w fun e w' => (∃ r : Int, e = .returned (.int .i64 r) ∧ r < 0) ∧ ∃ n, w' = w.drewN n))
    (CM : Hid (∀ (w : World) v u, NV w v (A / B) → NV w u B → Calls Tryz.prog 45 #[v, u] w fun e w' => Below w.heap.size w w' ∧ ∃ v', e = .returned v' ∧ NV w' v' ((A / B) * B)))
    (CN : Hid (∀ (w : World) v, NV w v ((A / B) * B) → Calls Tryz.prog 44 #[v, .int .i64 E, .bool true] w fun e w' => e = .returned (.float .f64 z) ∧ Below w.heap.size w w')) :
    Calls Tryz.prog 10 #[.string s, .float .f64 x, .float .f64 y] w fun e w' => e = .returned (.tuple #[.float .f64 z, .int .i64 0]) ∧ Below w.heap.size w w' := by
  go_enter Tryz.func10, Tryz.ntmps10
  go_wp2_with (first
    | (go_at_call 33; with_reducible refine (K.out _).mono ?_; rintro e w' ⟨rfl, rfl⟩)
    | (go_at_call 34; with_reducible refine (H.out.c1 _).mono ?_; rintro e w' ⟨rfl, rfl⟩)
    | (go_at_call 34; with_reducible refine (H.out.c2 _).mono ?_; rintro e w' ⟨rfl, rfl⟩)
    | (go_at_call 35; with_reducible refine (H.out.c3 _).mono ?_; rintro e w' ⟨rfl, rfl⟩)
    | (go_at_call 35; with_reducible refine (H.out.c4 _).mono ?_; rintro e w' ⟨rfl, rfl⟩)
    | (go_at_call 38; refine (H.out.cb _).mono ?_; rintro e w1 ⟨hb1, v, u, rfl, hv, hu⟩; have I := Lib.hid (And.intro hb1 (And.intro hv hu)); clear hb1 hv hu)
    | (go_at_call 39; refine (H.out.cq _ _ _ I.out.2.1 I.out.2.2).mono ?_; rintro e w2 ⟨hb2, v1, v2, rfl, hv1, hv2⟩; have J := Lib.hid (And.intro (I.out.1.trans (hb2.mono I.out.1.size)) (And.intro hv1 (And.intro hv2 (I.out.2.2.below hb2)))); obtain ⟨A', m, c', rfl, hm⟩ := hv2.len; have hm0 : 0 < m := Nat.pos_of_ne_zero (fun e => HZ.out (hm.1 e)); clear hb2 hv1 hv2 hm)
    | (go_at_call 40; refine (H.out.cl _ _ J.out.2.2.1).mono ?_; rintro e w3 ⟨hb3, v3, rfl, hv3⟩; have L := Lib.hid (And.intro (J.out.1.trans (hb3.mono J.out.1.size)) (And.intro (J.out.2.1.below hb3) (And.intro hv3 (J.out.2.2.2.below hb3)))); clear hb3 hv3)
    | (go_at_call 41; refine (CC.out _ _ _ L.out.2.2.1 L.out.2.2.2).mono ?_; rintro e w4 ⟨⟨r, rfl, hr⟩, n, rfl⟩; have hr1 : ¬ (0 < r) := (by omega); have hr2 : ¬ r = 0 := (by omega); clear hr; have M := Lib.hid (And.intro (BdN L.out.1 n) (And.intro (L.out.2.1.drewn n) (L.out.2.2.2.drewn n))))
    | (go_at_call 45; refine (CM.out _ _ _ M.out.2.1 M.out.2.2).mono ?_; rintro e w7 ⟨hb7, v7, rfl, hv7⟩; have N := Lib.hid (And.intro (M.out.1.trans (hb7.mono M.out.1.size)) hv7); clear hb7 hv7)
    | (go_at_call 44; refine (CN.out _ _ N.out.2).mono ?_; rintro e w8 ⟨rfl, hb8⟩; have O := Lib.hid (N.out.1.trans (hb8.mono N.out.1.size)); clear hb8))
  go_ret2
  exact ⟨rfl, O.out⟩

set_option maxRecDepth 100000 in
set_option maxHeartbeats 2000000 in
theorem lR0pg {s : ByteArray} {x y A B z : Nat} {E : Int} (w : World) (n0 : (s.toList == [110, 101, 97, 114, 101, 115, 116]) = true) (n1 : (s.toList == [117, 112]) = false) (n2 : (s.toList == [100, 111, 119, 110]) = false) (n3 : (s.toList == [116, 111, 45, 122, 101, 114, 111]) = false) (K : Hid (∀ w, Calls Tryz.prog 33 #[.string s] w fun e w' => e = .returned (.bool true) ∧ w = w')) (H : Hid (RC1 x y A B E)) (h5 : (FloatKind.f64.format.order y 0 == some .eq) = false) (ng : (FloatKind.f64.format.order x 0 == some .lt) = false) (HZ : Hid (A % B ≠ 0))
    (CC : Hid (∀ (w : World) v u, NV w v (A % B * 2) → NV w u B → Calls Tryz.prog 41 #[v, u] w fun e w' => (∃ r : Int, e = .returned (.int .i64 r) ∧ 0 < r) ∧ ∃ n, w' = w.drewN n))
    (CM : Hid (∀ (w : World) v u, NV w v (A / B + 1) → NV w u B → Calls Tryz.prog 45 #[v, u] w fun e w' => Below w.heap.size w w' ∧ ∃ v', e = .returned v' ∧ NV w' v' ((A / B + 1) * B)))
    (CN : Hid (∀ (w : World) v, NV w v ((A / B + 1) * B) → Calls Tryz.prog 44 #[v, .int .i64 E, .bool false] w fun e w' => e = .returned (.float .f64 z) ∧ Below w.heap.size w w')) :
    Calls Tryz.prog 10 #[.string s, .float .f64 x, .float .f64 y] w fun e w' => e = .returned (.tuple #[.float .f64 z, .int .i64 0]) ∧ Below w.heap.size w w' := by
  go_enter Tryz.func10, Tryz.ntmps10
  go_wp2_with (first
    | (go_at_call 33; with_reducible refine (K.out _).mono ?_; rintro e w' ⟨rfl, rfl⟩)
    | (go_at_call 34; with_reducible refine (H.out.c1 _).mono ?_; rintro e w' ⟨rfl, rfl⟩)
    | (go_at_call 34; with_reducible refine (H.out.c2 _).mono ?_; rintro e w' ⟨rfl, rfl⟩)
    | (go_at_call 35; with_reducible refine (H.out.c3 _).mono ?_; rintro e w' ⟨rfl, rfl⟩)
    | (go_at_call 35; with_reducible refine (H.out.c4 _).mono ?_; rintro e w' ⟨rfl, rfl⟩)
    | (go_at_call 38; refine (H.out.cb _).mono ?_; rintro e w1 ⟨hb1, v, u, rfl, hv, hu⟩; have I := Lib.hid (And.intro hb1 (And.intro hv hu)); clear hb1 hv hu)
    | (go_at_call 39; refine (H.out.cq _ _ _ I.out.2.1 I.out.2.2).mono ?_; rintro e w2 ⟨hb2, v1, v2, rfl, hv1, hv2⟩; have J := Lib.hid (And.intro (I.out.1.trans (hb2.mono I.out.1.size)) (And.intro hv1 (And.intro hv2 (I.out.2.2.below hb2)))); obtain ⟨A', m, c', rfl, hm⟩ := hv2.len; have hm0 : 0 < m := Nat.pos_of_ne_zero (fun e => HZ.out (hm.1 e)); clear hb2 hv1 hv2 hm)
    | (go_at_call 40; refine (H.out.cl _ _ J.out.2.2.1).mono ?_; rintro e w3 ⟨hb3, v3, rfl, hv3⟩; have L := Lib.hid (And.intro (J.out.1.trans (hb3.mono J.out.1.size)) (And.intro (J.out.2.1.below hb3) (And.intro hv3 (J.out.2.2.2.below hb3)))); clear hb3 hv3)
    | (go_at_call 41; refine (CC.out _ _ _ L.out.2.2.1 L.out.2.2.2).mono ?_; rintro e w4 ⟨⟨r, rfl, hr⟩, n, rfl⟩; have hr2 : ¬ r = 0 := (by omega); have M := Lib.hid (And.intro (BdN L.out.1 n) (And.intro (L.out.2.1.drewn n) (L.out.2.2.2.drewn n))))
    | (go_at_call 43; refine (H.out.co _).mono ?_; rintro e w5 ⟨hb5, v5, rfl, hv5⟩; replace M := Lib.hid (And.intro (M.out.1.trans (hb5.mono M.out.1.size)) (And.intro (M.out.2.1.below hb5) (M.out.2.2.below hb5))); have G := Lib.hid hv5; clear hb5 hv5)
    | (go_at_call 42; refine (H.out.ca _ _ _ M.out.2.1 G.out).mono ?_; rintro e w6 ⟨hb6, v6, rfl, hv6⟩; replace M := Lib.hid (And.intro (M.out.1.trans (hb6.mono M.out.1.size)) (And.intro hv6 (M.out.2.2.below hb6))); clear hb6 hv6)
    | (go_at_call 45; refine (CM.out _ _ _ M.out.2.1 M.out.2.2).mono ?_; rintro e w7 ⟨hb7, v7, rfl, hv7⟩; have N := Lib.hid (And.intro (M.out.1.trans (hb7.mono M.out.1.size)) hv7); clear hb7 hv7)
    | (go_at_call 44; refine (CN.out _ _ N.out.2).mono ?_; rintro e w8 ⟨rfl, hb8⟩; have O := Lib.hid (N.out.1.trans (hb8.mono N.out.1.size)); clear hb8))
  go_ret2
  exact ⟨rfl, O.out⟩

set_option maxRecDepth 100000 in
set_option maxHeartbeats 2000000 in
theorem lR0pe {s : ByteArray} {x y A B z : Nat} {E : Int} (w : World) (n0 : (s.toList == [110, 101, 97, 114, 101, 115, 116]) = true) (n1 : (s.toList == [117, 112]) = false) (n2 : (s.toList == [100, 111, 119, 110]) = false) (n3 : (s.toList == [116, 111, 45, 122, 101, 114, 111]) = false) (K : Hid (∀ w, Calls Tryz.prog 33 #[.string s] w fun e w' => e = .returned (.bool true) ∧ w = w')) (H : Hid (RC1 x y A B E)) (h5 : (FloatKind.f64.format.order y 0 == some .eq) = false) (ng : (FloatKind.f64.format.order x 0 == some .lt) = false) (HZ : Hid (A % B ≠ 0))
    (CC : Hid (∀ (w : World) v u, NV w v (A % B * 2) → NV w u B → Calls Tryz.prog 41 #[v, u] w fun e w' => (e = .returned (.int .i64 0)) ∧ ∃ n, w' = w.drewN n))
    (CM : Hid (∀ (w : World) v u, NV w v (A / B + 1) → NV w u B → Calls Tryz.prog 45 #[v, u] w fun e w' => Below w.heap.size w w' ∧ ∃ v', e = .returned v' ∧ NV w' v' ((A / B + 1) * B)))
    (CN : Hid (∀ (w : World) v, NV w v ((A / B + 1) * B) → Calls Tryz.prog 44 #[v, .int .i64 E, .bool false] w fun e w' => e = .returned (.float .f64 z) ∧ Below w.heap.size w w')) :
    Calls Tryz.prog 10 #[.string s, .float .f64 x, .float .f64 y] w fun e w' => e = .returned (.tuple #[.float .f64 z, .int .i64 0]) ∧ Below w.heap.size w w' := by
  go_enter Tryz.func10, Tryz.ntmps10
  go_wp2_with (first
    | (go_at_call 33; with_reducible refine (K.out _).mono ?_; rintro e w' ⟨rfl, rfl⟩)
    | (go_at_call 34; with_reducible refine (H.out.c1 _).mono ?_; rintro e w' ⟨rfl, rfl⟩)
    | (go_at_call 34; with_reducible refine (H.out.c2 _).mono ?_; rintro e w' ⟨rfl, rfl⟩)
    | (go_at_call 35; with_reducible refine (H.out.c3 _).mono ?_; rintro e w' ⟨rfl, rfl⟩)
    | (go_at_call 35; with_reducible refine (H.out.c4 _).mono ?_; rintro e w' ⟨rfl, rfl⟩)
    | (go_at_call 38; refine (H.out.cb _).mono ?_; rintro e w1 ⟨hb1, v, u, rfl, hv, hu⟩; have I := Lib.hid (And.intro hb1 (And.intro hv hu)); clear hb1 hv hu)
    | (go_at_call 39; refine (H.out.cq _ _ _ I.out.2.1 I.out.2.2).mono ?_; rintro e w2 ⟨hb2, v1, v2, rfl, hv1, hv2⟩; have J := Lib.hid (And.intro (I.out.1.trans (hb2.mono I.out.1.size)) (And.intro hv1 (And.intro hv2 (I.out.2.2.below hb2)))); obtain ⟨A', m, c', rfl, hm⟩ := hv2.len; have hm0 : 0 < m := Nat.pos_of_ne_zero (fun e => HZ.out (hm.1 e)); clear hb2 hv1 hv2 hm)
    | (go_at_call 40; refine (H.out.cl _ _ J.out.2.2.1).mono ?_; rintro e w3 ⟨hb3, v3, rfl, hv3⟩; have L := Lib.hid (And.intro (J.out.1.trans (hb3.mono J.out.1.size)) (And.intro (J.out.2.1.below hb3) (And.intro hv3 (J.out.2.2.2.below hb3)))); clear hb3 hv3)
    | (go_at_call 41; refine (CC.out _ _ _ L.out.2.2.1 L.out.2.2.2).mono ?_; rintro e w4 ⟨rfl, n, rfl⟩; have M := Lib.hid (And.intro (BdN L.out.1 n) (And.intro (L.out.2.1.drewn n) (L.out.2.2.2.drewn n))))
    | (go_at_call 43; refine (H.out.co _).mono ?_; rintro e w5 ⟨hb5, v5, rfl, hv5⟩; replace M := Lib.hid (And.intro (M.out.1.trans (hb5.mono M.out.1.size)) (And.intro (M.out.2.1.below hb5) (M.out.2.2.below hb5))); have G := Lib.hid hv5; clear hb5 hv5)
    | (go_at_call 42; refine (H.out.ca _ _ _ M.out.2.1 G.out).mono ?_; rintro e w6 ⟨hb6, v6, rfl, hv6⟩; replace M := Lib.hid (And.intro (M.out.1.trans (hb6.mono M.out.1.size)) (And.intro hv6 (M.out.2.2.below hb6))); clear hb6 hv6)
    | (go_at_call 45; refine (CM.out _ _ _ M.out.2.1 M.out.2.2).mono ?_; rintro e w7 ⟨hb7, v7, rfl, hv7⟩; have N := Lib.hid (And.intro (M.out.1.trans (hb7.mono M.out.1.size)) hv7); clear hb7 hv7)
    | (go_at_call 44; refine (CN.out _ _ N.out.2).mono ?_; rintro e w8 ⟨rfl, hb8⟩; have O := Lib.hid (N.out.1.trans (hb8.mono N.out.1.size)); clear hb8))
  go_ret2
  exact ⟨rfl, O.out⟩

set_option maxRecDepth 100000 in
set_option maxHeartbeats 2000000 in
theorem lR0pl {s : ByteArray} {x y A B z : Nat} {E : Int} (w : World) (n0 : (s.toList == [110, 101, 97, 114, 101, 115, 116]) = true) (n1 : (s.toList == [117, 112]) = false) (n2 : (s.toList == [100, 111, 119, 110]) = false) (n3 : (s.toList == [116, 111, 45, 122, 101, 114, 111]) = false) (K : Hid (∀ w, Calls Tryz.prog 33 #[.string s] w fun e w' => e = .returned (.bool true) ∧ w = w')) (H : Hid (RC1 x y A B E)) (h5 : (FloatKind.f64.format.order y 0 == some .eq) = false) (ng : (FloatKind.f64.format.order x 0 == some .lt) = false) (HZ : Hid (A % B ≠ 0))
    (CC : Hid (∀ (w : World) v u, NV w v (A % B * 2) → NV w u B → Calls Tryz.prog 41 #[v, u] w fun e w' => (∃ r : Int, e = .returned (.int .i64 r) ∧ r < 0) ∧ ∃ n, w' = w.drewN n))
    (CM : Hid (∀ (w : World) v u, NV w v (A / B) → NV w u B → Calls Tryz.prog 45 #[v, u] w fun e w' => Below w.heap.size w w' ∧ ∃ v', e = .returned v' ∧ NV w' v' ((A / B) * B)))
    (CN : Hid (∀ (w : World) v, NV w v ((A / B) * B) → Calls Tryz.prog 44 #[v, .int .i64 E, .bool false] w fun e w' => e = .returned (.float .f64 z) ∧ Below w.heap.size w w')) :
    Calls Tryz.prog 10 #[.string s, .float .f64 x, .float .f64 y] w fun e w' => e = .returned (.tuple #[.float .f64 z, .int .i64 0]) ∧ Below w.heap.size w w' := by
  go_enter Tryz.func10, Tryz.ntmps10
  go_wp2_with (first
    | (go_at_call 33; with_reducible refine (K.out _).mono ?_; rintro e w' ⟨rfl, rfl⟩)
    | (go_at_call 34; with_reducible refine (H.out.c1 _).mono ?_; rintro e w' ⟨rfl, rfl⟩)
    | (go_at_call 34; with_reducible refine (H.out.c2 _).mono ?_; rintro e w' ⟨rfl, rfl⟩)
    | (go_at_call 35; with_reducible refine (H.out.c3 _).mono ?_; rintro e w' ⟨rfl, rfl⟩)
    | (go_at_call 35; with_reducible refine (H.out.c4 _).mono ?_; rintro e w' ⟨rfl, rfl⟩)
    | (go_at_call 38; refine (H.out.cb _).mono ?_; rintro e w1 ⟨hb1, v, u, rfl, hv, hu⟩; have I := Lib.hid (And.intro hb1 (And.intro hv hu)); clear hb1 hv hu)
    | (go_at_call 39; refine (H.out.cq _ _ _ I.out.2.1 I.out.2.2).mono ?_; rintro e w2 ⟨hb2, v1, v2, rfl, hv1, hv2⟩; have J := Lib.hid (And.intro (I.out.1.trans (hb2.mono I.out.1.size)) (And.intro hv1 (And.intro hv2 (I.out.2.2.below hb2)))); obtain ⟨A', m, c', rfl, hm⟩ := hv2.len; have hm0 : 0 < m := Nat.pos_of_ne_zero (fun e => HZ.out (hm.1 e)); clear hb2 hv1 hv2 hm)
    | (go_at_call 40; refine (H.out.cl _ _ J.out.2.2.1).mono ?_; rintro e w3 ⟨hb3, v3, rfl, hv3⟩; have L := Lib.hid (And.intro (J.out.1.trans (hb3.mono J.out.1.size)) (And.intro (J.out.2.1.below hb3) (And.intro hv3 (J.out.2.2.2.below hb3)))); clear hb3 hv3)
    | (go_at_call 41; refine (CC.out _ _ _ L.out.2.2.1 L.out.2.2.2).mono ?_; rintro e w4 ⟨⟨r, rfl, hr⟩, n, rfl⟩; have hr1 : ¬ (0 < r) := (by omega); have hr2 : ¬ r = 0 := (by omega); clear hr; have M := Lib.hid (And.intro (BdN L.out.1 n) (And.intro (L.out.2.1.drewn n) (L.out.2.2.2.drewn n))))
    | (go_at_call 45; refine (CM.out _ _ _ M.out.2.1 M.out.2.2).mono ?_; rintro e w7 ⟨hb7, v7, rfl, hv7⟩; have N := Lib.hid (And.intro (M.out.1.trans (hb7.mono M.out.1.size)) hv7); clear hb7 hv7)
    | (go_at_call 44; refine (CN.out _ _ N.out.2).mono ?_; rintro e w8 ⟨rfl, hb8⟩; have O := Lib.hid (N.out.1.trans (hb8.mono N.out.1.size)); clear hb8))
  go_ret2
  exact ⟨rfl, O.out⟩

set_option maxRecDepth 100000 in
set_option maxHeartbeats 2000000 in
theorem lR1n {s : ByteArray} {x y A B z : Nat} {E : Int} (w : World) (n0 : (s.toList == [110, 101, 97, 114, 101, 115, 116]) = false) (n1 : (s.toList == [117, 112]) = true) (n2 : (s.toList == [100, 111, 119, 110]) = false) (n3 : (s.toList == [116, 111, 45, 122, 101, 114, 111]) = false) (K : Hid (∀ w, Calls Tryz.prog 33 #[.string s] w fun e w' => e = .returned (.bool true) ∧ w = w')) (H : Hid (RC1 x y A B E)) (h5 : (FloatKind.f64.format.order y 0 == some .eq) = false) (ng : (FloatKind.f64.format.order x 0 == some .lt) = true) (HZ : Hid (A % B ≠ 0))
    (CC : Hid (∀ (w : World) v u, NV w v (A % B * 2) → NV w u B → Calls Tryz.prog 41 #[v, u] w fun e w' => (∃ r, e = .returned (.int .i64 r)) ∧ ∃ n, w' = w.drewN n))
    (CM : Hid (∀ (w : World) v u, NV w v (A / B) → NV w u B → Calls Tryz.prog 45 #[v, u] w fun e w' => Below w.heap.size w w' ∧ ∃ v', e = .returned v' ∧ NV w' v' ((A / B) * B)))
    (CN : Hid (∀ (w : World) v, NV w v ((A / B) * B) → Calls Tryz.prog 44 #[v, .int .i64 E, .bool true] w fun e w' => e = .returned (.float .f64 z) ∧ Below w.heap.size w w')) :
    Calls Tryz.prog 10 #[.string s, .float .f64 x, .float .f64 y] w fun e w' => e = .returned (.tuple #[.float .f64 z, .int .i64 0]) ∧ Below w.heap.size w w' := by
  go_enter Tryz.func10, Tryz.ntmps10
  go_wp2_with (first
    | (go_at_call 33; with_reducible refine (K.out _).mono ?_; rintro e w' ⟨rfl, rfl⟩)
    | (go_at_call 34; with_reducible refine (H.out.c1 _).mono ?_; rintro e w' ⟨rfl, rfl⟩)
    | (go_at_call 34; with_reducible refine (H.out.c2 _).mono ?_; rintro e w' ⟨rfl, rfl⟩)
    | (go_at_call 35; with_reducible refine (H.out.c3 _).mono ?_; rintro e w' ⟨rfl, rfl⟩)
    | (go_at_call 35; with_reducible refine (H.out.c4 _).mono ?_; rintro e w' ⟨rfl, rfl⟩)
    | (go_at_call 38; refine (H.out.cb _).mono ?_; rintro e w1 ⟨hb1, v, u, rfl, hv, hu⟩; have I := Lib.hid (And.intro hb1 (And.intro hv hu)); clear hb1 hv hu)
    | (go_at_call 39; refine (H.out.cq _ _ _ I.out.2.1 I.out.2.2).mono ?_; rintro e w2 ⟨hb2, v1, v2, rfl, hv1, hv2⟩; have J := Lib.hid (And.intro (I.out.1.trans (hb2.mono I.out.1.size)) (And.intro hv1 (And.intro hv2 (I.out.2.2.below hb2)))); obtain ⟨A', m, c', rfl, hm⟩ := hv2.len; have hm0 : 0 < m := Nat.pos_of_ne_zero (fun e => HZ.out (hm.1 e)); clear hb2 hv1 hv2 hm)
    | (go_at_call 40; refine (H.out.cl _ _ J.out.2.2.1).mono ?_; rintro e w3 ⟨hb3, v3, rfl, hv3⟩; have L := Lib.hid (And.intro (J.out.1.trans (hb3.mono J.out.1.size)) (And.intro (J.out.2.1.below hb3) (And.intro hv3 (J.out.2.2.2.below hb3)))); clear hb3 hv3)
    | (go_at_call 41; refine (CC.out _ _ _ L.out.2.2.1 L.out.2.2.2).mono ?_; rintro e w4 ⟨⟨r, rfl⟩, n, rfl⟩; have M := Lib.hid (And.intro (BdN L.out.1 n) (And.intro (L.out.2.1.drewn n) (L.out.2.2.2.drewn n))))
    | (go_at_call 45; refine (CM.out _ _ _ M.out.2.1 M.out.2.2).mono ?_; rintro e w7 ⟨hb7, v7, rfl, hv7⟩; have N := Lib.hid (And.intro (M.out.1.trans (hb7.mono M.out.1.size)) hv7); clear hb7 hv7)
    | (go_at_call 44; refine (CN.out _ _ N.out.2).mono ?_; rintro e w8 ⟨rfl, hb8⟩; have O := Lib.hid (N.out.1.trans (hb8.mono N.out.1.size)); clear hb8))
  go_ret2
  exact ⟨rfl, O.out⟩

set_option maxRecDepth 100000 in
set_option maxHeartbeats 2000000 in
theorem lR1p {s : ByteArray} {x y A B z : Nat} {E : Int} (w : World) (n0 : (s.toList == [110, 101, 97, 114, 101, 115, 116]) = false) (n1 : (s.toList == [117, 112]) = true) (n2 : (s.toList == [100, 111, 119, 110]) = false) (n3 : (s.toList == [116, 111, 45, 122, 101, 114, 111]) = false) (K : Hid (∀ w, Calls Tryz.prog 33 #[.string s] w fun e w' => e = .returned (.bool true) ∧ w = w')) (H : Hid (RC1 x y A B E)) (h5 : (FloatKind.f64.format.order y 0 == some .eq) = false) (ng : (FloatKind.f64.format.order x 0 == some .lt) = false) (HZ : Hid (A % B ≠ 0))
    (CC : Hid (∀ (w : World) v u, NV w v (A % B * 2) → NV w u B → Calls Tryz.prog 41 #[v, u] w fun e w' => (∃ r, e = .returned (.int .i64 r)) ∧ ∃ n, w' = w.drewN n))
    (CM : Hid (∀ (w : World) v u, NV w v (A / B + 1) → NV w u B → Calls Tryz.prog 45 #[v, u] w fun e w' => Below w.heap.size w w' ∧ ∃ v', e = .returned v' ∧ NV w' v' ((A / B + 1) * B)))
    (CN : Hid (∀ (w : World) v, NV w v ((A / B + 1) * B) → Calls Tryz.prog 44 #[v, .int .i64 E, .bool false] w fun e w' => e = .returned (.float .f64 z) ∧ Below w.heap.size w w')) :
    Calls Tryz.prog 10 #[.string s, .float .f64 x, .float .f64 y] w fun e w' => e = .returned (.tuple #[.float .f64 z, .int .i64 0]) ∧ Below w.heap.size w w' := by
  go_enter Tryz.func10, Tryz.ntmps10
  go_wp2_with (first
    | (go_at_call 33; with_reducible refine (K.out _).mono ?_; rintro e w' ⟨rfl, rfl⟩)
    | (go_at_call 34; with_reducible refine (H.out.c1 _).mono ?_; rintro e w' ⟨rfl, rfl⟩)
    | (go_at_call 34; with_reducible refine (H.out.c2 _).mono ?_; rintro e w' ⟨rfl, rfl⟩)
    | (go_at_call 35; with_reducible refine (H.out.c3 _).mono ?_; rintro e w' ⟨rfl, rfl⟩)
    | (go_at_call 35; with_reducible refine (H.out.c4 _).mono ?_; rintro e w' ⟨rfl, rfl⟩)
    | (go_at_call 38; refine (H.out.cb _).mono ?_; rintro e w1 ⟨hb1, v, u, rfl, hv, hu⟩; have I := Lib.hid (And.intro hb1 (And.intro hv hu)); clear hb1 hv hu)
    | (go_at_call 39; refine (H.out.cq _ _ _ I.out.2.1 I.out.2.2).mono ?_; rintro e w2 ⟨hb2, v1, v2, rfl, hv1, hv2⟩; have J := Lib.hid (And.intro (I.out.1.trans (hb2.mono I.out.1.size)) (And.intro hv1 (And.intro hv2 (I.out.2.2.below hb2)))); obtain ⟨A', m, c', rfl, hm⟩ := hv2.len; have hm0 : 0 < m := Nat.pos_of_ne_zero (fun e => HZ.out (hm.1 e)); clear hb2 hv1 hv2 hm)
    | (go_at_call 40; refine (H.out.cl _ _ J.out.2.2.1).mono ?_; rintro e w3 ⟨hb3, v3, rfl, hv3⟩; have L := Lib.hid (And.intro (J.out.1.trans (hb3.mono J.out.1.size)) (And.intro (J.out.2.1.below hb3) (And.intro hv3 (J.out.2.2.2.below hb3)))); clear hb3 hv3)
    | (go_at_call 41; refine (CC.out _ _ _ L.out.2.2.1 L.out.2.2.2).mono ?_; rintro e w4 ⟨⟨r, rfl⟩, n, rfl⟩; have M := Lib.hid (And.intro (BdN L.out.1 n) (And.intro (L.out.2.1.drewn n) (L.out.2.2.2.drewn n))))
    | (go_at_call 43; refine (H.out.co _).mono ?_; rintro e w5 ⟨hb5, v5, rfl, hv5⟩; replace M := Lib.hid (And.intro (M.out.1.trans (hb5.mono M.out.1.size)) (And.intro (M.out.2.1.below hb5) (M.out.2.2.below hb5))); have G := Lib.hid hv5; clear hb5 hv5)
    | (go_at_call 42; refine (H.out.ca _ _ _ M.out.2.1 G.out).mono ?_; rintro e w6 ⟨hb6, v6, rfl, hv6⟩; replace M := Lib.hid (And.intro (M.out.1.trans (hb6.mono M.out.1.size)) (And.intro hv6 (M.out.2.2.below hb6))); clear hb6 hv6)
    | (go_at_call 45; refine (CM.out _ _ _ M.out.2.1 M.out.2.2).mono ?_; rintro e w7 ⟨hb7, v7, rfl, hv7⟩; have N := Lib.hid (And.intro (M.out.1.trans (hb7.mono M.out.1.size)) hv7); clear hb7 hv7)
    | (go_at_call 44; refine (CN.out _ _ N.out.2).mono ?_; rintro e w8 ⟨rfl, hb8⟩; have O := Lib.hid (N.out.1.trans (hb8.mono N.out.1.size)); clear hb8))
  go_ret2
  exact ⟨rfl, O.out⟩

set_option maxRecDepth 100000 in
set_option maxHeartbeats 2000000 in
theorem lR2n {s : ByteArray} {x y A B z : Nat} {E : Int} (w : World) (n0 : (s.toList == [110, 101, 97, 114, 101, 115, 116]) = false) (n1 : (s.toList == [117, 112]) = false) (n2 : (s.toList == [100, 111, 119, 110]) = true) (n3 : (s.toList == [116, 111, 45, 122, 101, 114, 111]) = false) (K : Hid (∀ w, Calls Tryz.prog 33 #[.string s] w fun e w' => e = .returned (.bool true) ∧ w = w')) (H : Hid (RC1 x y A B E)) (h5 : (FloatKind.f64.format.order y 0 == some .eq) = false) (ng : (FloatKind.f64.format.order x 0 == some .lt) = true) (HZ : Hid (A % B ≠ 0))
    (CC : Hid (∀ (w : World) v u, NV w v (A % B * 2) → NV w u B → Calls Tryz.prog 41 #[v, u] w fun e w' => (∃ r, e = .returned (.int .i64 r)) ∧ ∃ n, w' = w.drewN n))
    (CM : Hid (∀ (w : World) v u, NV w v (A / B + 1) → NV w u B → Calls Tryz.prog 45 #[v, u] w fun e w' => Below w.heap.size w w' ∧ ∃ v', e = .returned v' ∧ NV w' v' ((A / B + 1) * B)))
    (CN : Hid (∀ (w : World) v, NV w v ((A / B + 1) * B) → Calls Tryz.prog 44 #[v, .int .i64 E, .bool true] w fun e w' => e = .returned (.float .f64 z) ∧ Below w.heap.size w w')) :
    Calls Tryz.prog 10 #[.string s, .float .f64 x, .float .f64 y] w fun e w' => e = .returned (.tuple #[.float .f64 z, .int .i64 0]) ∧ Below w.heap.size w w' := by
  go_enter Tryz.func10, Tryz.ntmps10
  go_wp2_with (first
    | (go_at_call 33; with_reducible refine (K.out _).mono ?_; rintro e w' ⟨rfl, rfl⟩)
    | (go_at_call 34; with_reducible refine (H.out.c1 _).mono ?_; rintro e w' ⟨rfl, rfl⟩)
    | (go_at_call 34; with_reducible refine (H.out.c2 _).mono ?_; rintro e w' ⟨rfl, rfl⟩)
    | (go_at_call 35; with_reducible refine (H.out.c3 _).mono ?_; rintro e w' ⟨rfl, rfl⟩)
    | (go_at_call 35; with_reducible refine (H.out.c4 _).mono ?_; rintro e w' ⟨rfl, rfl⟩)
    | (go_at_call 38; refine (H.out.cb _).mono ?_; rintro e w1 ⟨hb1, v, u, rfl, hv, hu⟩; have I := Lib.hid (And.intro hb1 (And.intro hv hu)); clear hb1 hv hu)
    | (go_at_call 39; refine (H.out.cq _ _ _ I.out.2.1 I.out.2.2).mono ?_; rintro e w2 ⟨hb2, v1, v2, rfl, hv1, hv2⟩; have J := Lib.hid (And.intro (I.out.1.trans (hb2.mono I.out.1.size)) (And.intro hv1 (And.intro hv2 (I.out.2.2.below hb2)))); obtain ⟨A', m, c', rfl, hm⟩ := hv2.len; have hm0 : 0 < m := Nat.pos_of_ne_zero (fun e => HZ.out (hm.1 e)); clear hb2 hv1 hv2 hm)
    | (go_at_call 40; refine (H.out.cl _ _ J.out.2.2.1).mono ?_; rintro e w3 ⟨hb3, v3, rfl, hv3⟩; have L := Lib.hid (And.intro (J.out.1.trans (hb3.mono J.out.1.size)) (And.intro (J.out.2.1.below hb3) (And.intro hv3 (J.out.2.2.2.below hb3)))); clear hb3 hv3)
    | (go_at_call 41; refine (CC.out _ _ _ L.out.2.2.1 L.out.2.2.2).mono ?_; rintro e w4 ⟨⟨r, rfl⟩, n, rfl⟩; have M := Lib.hid (And.intro (BdN L.out.1 n) (And.intro (L.out.2.1.drewn n) (L.out.2.2.2.drewn n))))
    | (go_at_call 43; refine (H.out.co _).mono ?_; rintro e w5 ⟨hb5, v5, rfl, hv5⟩; replace M := Lib.hid (And.intro (M.out.1.trans (hb5.mono M.out.1.size)) (And.intro (M.out.2.1.below hb5) (M.out.2.2.below hb5))); have G := Lib.hid hv5; clear hb5 hv5)
    | (go_at_call 42; refine (H.out.ca _ _ _ M.out.2.1 G.out).mono ?_; rintro e w6 ⟨hb6, v6, rfl, hv6⟩; replace M := Lib.hid (And.intro (M.out.1.trans (hb6.mono M.out.1.size)) (And.intro hv6 (M.out.2.2.below hb6))); clear hb6 hv6)
    | (go_at_call 45; refine (CM.out _ _ _ M.out.2.1 M.out.2.2).mono ?_; rintro e w7 ⟨hb7, v7, rfl, hv7⟩; have N := Lib.hid (And.intro (M.out.1.trans (hb7.mono M.out.1.size)) hv7); clear hb7 hv7)
    | (go_at_call 44; refine (CN.out _ _ N.out.2).mono ?_; rintro e w8 ⟨rfl, hb8⟩; have O := Lib.hid (N.out.1.trans (hb8.mono N.out.1.size)); clear hb8))
  go_ret2
  exact ⟨rfl, O.out⟩

set_option maxRecDepth 100000 in
set_option maxHeartbeats 2000000 in
theorem lR2p {s : ByteArray} {x y A B z : Nat} {E : Int} (w : World) (n0 : (s.toList == [110, 101, 97, 114, 101, 115, 116]) = false) (n1 : (s.toList == [117, 112]) = false) (n2 : (s.toList == [100, 111, 119, 110]) = true) (n3 : (s.toList == [116, 111, 45, 122, 101, 114, 111]) = false) (K : Hid (∀ w, Calls Tryz.prog 33 #[.string s] w fun e w' => e = .returned (.bool true) ∧ w = w')) (H : Hid (RC1 x y A B E)) (h5 : (FloatKind.f64.format.order y 0 == some .eq) = false) (ng : (FloatKind.f64.format.order x 0 == some .lt) = false) (HZ : Hid (A % B ≠ 0))
    (CC : Hid (∀ (w : World) v u, NV w v (A % B * 2) → NV w u B → Calls Tryz.prog 41 #[v, u] w fun e w' => (∃ r, e = .returned (.int .i64 r)) ∧ ∃ n, w' = w.drewN n))
    (CM : Hid (∀ (w : World) v u, NV w v (A / B) → NV w u B → Calls Tryz.prog 45 #[v, u] w fun e w' => Below w.heap.size w w' ∧ ∃ v', e = .returned v' ∧ NV w' v' ((A / B) * B)))
    (CN : Hid (∀ (w : World) v, NV w v ((A / B) * B) → Calls Tryz.prog 44 #[v, .int .i64 E, .bool false] w fun e w' => e = .returned (.float .f64 z) ∧ Below w.heap.size w w')) :
    Calls Tryz.prog 10 #[.string s, .float .f64 x, .float .f64 y] w fun e w' => e = .returned (.tuple #[.float .f64 z, .int .i64 0]) ∧ Below w.heap.size w w' := by
  go_enter Tryz.func10, Tryz.ntmps10
  go_wp2_with (first
    | (go_at_call 33; with_reducible refine (K.out _).mono ?_; rintro e w' ⟨rfl, rfl⟩)
    | (go_at_call 34; with_reducible refine (H.out.c1 _).mono ?_; rintro e w' ⟨rfl, rfl⟩)
    | (go_at_call 34; with_reducible refine (H.out.c2 _).mono ?_; rintro e w' ⟨rfl, rfl⟩)
    | (go_at_call 35; with_reducible refine (H.out.c3 _).mono ?_; rintro e w' ⟨rfl, rfl⟩)
    | (go_at_call 35; with_reducible refine (H.out.c4 _).mono ?_; rintro e w' ⟨rfl, rfl⟩)
    | (go_at_call 38; refine (H.out.cb _).mono ?_; rintro e w1 ⟨hb1, v, u, rfl, hv, hu⟩; have I := Lib.hid (And.intro hb1 (And.intro hv hu)); clear hb1 hv hu)
    | (go_at_call 39; refine (H.out.cq _ _ _ I.out.2.1 I.out.2.2).mono ?_; rintro e w2 ⟨hb2, v1, v2, rfl, hv1, hv2⟩; have J := Lib.hid (And.intro (I.out.1.trans (hb2.mono I.out.1.size)) (And.intro hv1 (And.intro hv2 (I.out.2.2.below hb2)))); obtain ⟨A', m, c', rfl, hm⟩ := hv2.len; have hm0 : 0 < m := Nat.pos_of_ne_zero (fun e => HZ.out (hm.1 e)); clear hb2 hv1 hv2 hm)
    | (go_at_call 40; refine (H.out.cl _ _ J.out.2.2.1).mono ?_; rintro e w3 ⟨hb3, v3, rfl, hv3⟩; have L := Lib.hid (And.intro (J.out.1.trans (hb3.mono J.out.1.size)) (And.intro (J.out.2.1.below hb3) (And.intro hv3 (J.out.2.2.2.below hb3)))); clear hb3 hv3)
    | (go_at_call 41; refine (CC.out _ _ _ L.out.2.2.1 L.out.2.2.2).mono ?_; rintro e w4 ⟨⟨r, rfl⟩, n, rfl⟩; have M := Lib.hid (And.intro (BdN L.out.1 n) (And.intro (L.out.2.1.drewn n) (L.out.2.2.2.drewn n))))
    | (go_at_call 45; refine (CM.out _ _ _ M.out.2.1 M.out.2.2).mono ?_; rintro e w7 ⟨hb7, v7, rfl, hv7⟩; have N := Lib.hid (And.intro (M.out.1.trans (hb7.mono M.out.1.size)) hv7); clear hb7 hv7)
    | (go_at_call 44; refine (CN.out _ _ N.out.2).mono ?_; rintro e w8 ⟨rfl, hb8⟩; have O := Lib.hid (N.out.1.trans (hb8.mono N.out.1.size)); clear hb8))
  go_ret2
  exact ⟨rfl, O.out⟩

set_option maxRecDepth 100000 in
set_option maxHeartbeats 2000000 in
theorem lR3n {s : ByteArray} {x y A B z : Nat} {E : Int} (w : World) (n0 : (s.toList == [110, 101, 97, 114, 101, 115, 116]) = false) (n1 : (s.toList == [117, 112]) = false) (n2 : (s.toList == [100, 111, 119, 110]) = false) (n3 : (s.toList == [116, 111, 45, 122, 101, 114, 111]) = true) (K : Hid (∀ w, Calls Tryz.prog 33 #[.string s] w fun e w' => e = .returned (.bool true) ∧ w = w')) (H : Hid (RC1 x y A B E)) (h5 : (FloatKind.f64.format.order y 0 == some .eq) = false) (ng : (FloatKind.f64.format.order x 0 == some .lt) = true) (HZ : Hid (A % B ≠ 0))
    (CC : Hid (∀ (w : World) v u, NV w v (A % B * 2) → NV w u B → Calls Tryz.prog 41 #[v, u] w fun e w' => (∃ r, e = .returned (.int .i64 r)) ∧ ∃ n, w' = w.drewN n))
    (CM : Hid (∀ (w : World) v u, NV w v (A / B) → NV w u B → Calls Tryz.prog 45 #[v, u] w fun e w' => Below w.heap.size w w' ∧ ∃ v', e = .returned v' ∧ NV w' v' ((A / B) * B)))
    (CN : Hid (∀ (w : World) v, NV w v ((A / B) * B) → Calls Tryz.prog 44 #[v, .int .i64 E, .bool true] w fun e w' => e = .returned (.float .f64 z) ∧ Below w.heap.size w w')) :
    Calls Tryz.prog 10 #[.string s, .float .f64 x, .float .f64 y] w fun e w' => e = .returned (.tuple #[.float .f64 z, .int .i64 0]) ∧ Below w.heap.size w w' := by
  go_enter Tryz.func10, Tryz.ntmps10
  go_wp2_with (first
    | (go_at_call 33; with_reducible refine (K.out _).mono ?_; rintro e w' ⟨rfl, rfl⟩)
    | (go_at_call 34; with_reducible refine (H.out.c1 _).mono ?_; rintro e w' ⟨rfl, rfl⟩)
    | (go_at_call 34; with_reducible refine (H.out.c2 _).mono ?_; rintro e w' ⟨rfl, rfl⟩)
    | (go_at_call 35; with_reducible refine (H.out.c3 _).mono ?_; rintro e w' ⟨rfl, rfl⟩)
    | (go_at_call 35; with_reducible refine (H.out.c4 _).mono ?_; rintro e w' ⟨rfl, rfl⟩)
    | (go_at_call 38; refine (H.out.cb _).mono ?_; rintro e w1 ⟨hb1, v, u, rfl, hv, hu⟩; have I := Lib.hid (And.intro hb1 (And.intro hv hu)); clear hb1 hv hu)
    | (go_at_call 39; refine (H.out.cq _ _ _ I.out.2.1 I.out.2.2).mono ?_; rintro e w2 ⟨hb2, v1, v2, rfl, hv1, hv2⟩; have J := Lib.hid (And.intro (I.out.1.trans (hb2.mono I.out.1.size)) (And.intro hv1 (And.intro hv2 (I.out.2.2.below hb2)))); obtain ⟨A', m, c', rfl, hm⟩ := hv2.len; have hm0 : 0 < m := Nat.pos_of_ne_zero (fun e => HZ.out (hm.1 e)); clear hb2 hv1 hv2 hm)
    | (go_at_call 40; refine (H.out.cl _ _ J.out.2.2.1).mono ?_; rintro e w3 ⟨hb3, v3, rfl, hv3⟩; have L := Lib.hid (And.intro (J.out.1.trans (hb3.mono J.out.1.size)) (And.intro (J.out.2.1.below hb3) (And.intro hv3 (J.out.2.2.2.below hb3)))); clear hb3 hv3)
    | (go_at_call 41; refine (CC.out _ _ _ L.out.2.2.1 L.out.2.2.2).mono ?_; rintro e w4 ⟨⟨r, rfl⟩, n, rfl⟩; have M := Lib.hid (And.intro (BdN L.out.1 n) (And.intro (L.out.2.1.drewn n) (L.out.2.2.2.drewn n))))
    | (go_at_call 45; refine (CM.out _ _ _ M.out.2.1 M.out.2.2).mono ?_; rintro e w7 ⟨hb7, v7, rfl, hv7⟩; have N := Lib.hid (And.intro (M.out.1.trans (hb7.mono M.out.1.size)) hv7); clear hb7 hv7)
    | (go_at_call 44; refine (CN.out _ _ N.out.2).mono ?_; rintro e w8 ⟨rfl, hb8⟩; have O := Lib.hid (N.out.1.trans (hb8.mono N.out.1.size)); clear hb8))
  go_ret2
  exact ⟨rfl, O.out⟩

set_option maxRecDepth 100000 in
set_option maxHeartbeats 2000000 in
theorem lR3p {s : ByteArray} {x y A B z : Nat} {E : Int} (w : World) (n0 : (s.toList == [110, 101, 97, 114, 101, 115, 116]) = false) (n1 : (s.toList == [117, 112]) = false) (n2 : (s.toList == [100, 111, 119, 110]) = false) (n3 : (s.toList == [116, 111, 45, 122, 101, 114, 111]) = true) (K : Hid (∀ w, Calls Tryz.prog 33 #[.string s] w fun e w' => e = .returned (.bool true) ∧ w = w')) (H : Hid (RC1 x y A B E)) (h5 : (FloatKind.f64.format.order y 0 == some .eq) = false) (ng : (FloatKind.f64.format.order x 0 == some .lt) = false) (HZ : Hid (A % B ≠ 0))
    (CC : Hid (∀ (w : World) v u, NV w v (A % B * 2) → NV w u B → Calls Tryz.prog 41 #[v, u] w fun e w' => (∃ r, e = .returned (.int .i64 r)) ∧ ∃ n, w' = w.drewN n))
    (CM : Hid (∀ (w : World) v u, NV w v (A / B) → NV w u B → Calls Tryz.prog 45 #[v, u] w fun e w' => Below w.heap.size w w' ∧ ∃ v', e = .returned v' ∧ NV w' v' ((A / B) * B)))
    (CN : Hid (∀ (w : World) v, NV w v ((A / B) * B) → Calls Tryz.prog 44 #[v, .int .i64 E, .bool false] w fun e w' => e = .returned (.float .f64 z) ∧ Below w.heap.size w w')) :
    Calls Tryz.prog 10 #[.string s, .float .f64 x, .float .f64 y] w fun e w' => e = .returned (.tuple #[.float .f64 z, .int .i64 0]) ∧ Below w.heap.size w w' := by
  go_enter Tryz.func10, Tryz.ntmps10
  go_wp2_with (first
    | (go_at_call 33; with_reducible refine (K.out _).mono ?_; rintro e w' ⟨rfl, rfl⟩)
    | (go_at_call 34; with_reducible refine (H.out.c1 _).mono ?_; rintro e w' ⟨rfl, rfl⟩)
    | (go_at_call 34; with_reducible refine (H.out.c2 _).mono ?_; rintro e w' ⟨rfl, rfl⟩)
    | (go_at_call 35; with_reducible refine (H.out.c3 _).mono ?_; rintro e w' ⟨rfl, rfl⟩)
    | (go_at_call 35; with_reducible refine (H.out.c4 _).mono ?_; rintro e w' ⟨rfl, rfl⟩)
    | (go_at_call 38; refine (H.out.cb _).mono ?_; rintro e w1 ⟨hb1, v, u, rfl, hv, hu⟩; have I := Lib.hid (And.intro hb1 (And.intro hv hu)); clear hb1 hv hu)
    | (go_at_call 39; refine (H.out.cq _ _ _ I.out.2.1 I.out.2.2).mono ?_; rintro e w2 ⟨hb2, v1, v2, rfl, hv1, hv2⟩; have J := Lib.hid (And.intro (I.out.1.trans (hb2.mono I.out.1.size)) (And.intro hv1 (And.intro hv2 (I.out.2.2.below hb2)))); obtain ⟨A', m, c', rfl, hm⟩ := hv2.len; have hm0 : 0 < m := Nat.pos_of_ne_zero (fun e => HZ.out (hm.1 e)); clear hb2 hv1 hv2 hm)
    | (go_at_call 40; refine (H.out.cl _ _ J.out.2.2.1).mono ?_; rintro e w3 ⟨hb3, v3, rfl, hv3⟩; have L := Lib.hid (And.intro (J.out.1.trans (hb3.mono J.out.1.size)) (And.intro (J.out.2.1.below hb3) (And.intro hv3 (J.out.2.2.2.below hb3)))); clear hb3 hv3)
    | (go_at_call 41; refine (CC.out _ _ _ L.out.2.2.1 L.out.2.2.2).mono ?_; rintro e w4 ⟨⟨r, rfl⟩, n, rfl⟩; have M := Lib.hid (And.intro (BdN L.out.1 n) (And.intro (L.out.2.1.drewn n) (L.out.2.2.2.drewn n))))
    | (go_at_call 45; refine (CM.out _ _ _ M.out.2.1 M.out.2.2).mono ?_; rintro e w7 ⟨hb7, v7, rfl, hv7⟩; have N := Lib.hid (And.intro (M.out.1.trans (hb7.mono M.out.1.size)) hv7); clear hb7 hv7)
    | (go_at_call 44; refine (CN.out _ _ N.out.2).mono ?_; rintro e w8 ⟨rfl, hb8⟩; have O := Lib.hid (N.out.1.trans (hb8.mono N.out.1.size)); clear hb8))
  go_ret2
  exact ⟨rfl, O.out⟩

end Go.Proofs.YthohhepoddnbnaaGreatDoor
