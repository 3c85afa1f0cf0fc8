/- The closures and Easing.At: what an easing tells of a number. -/
import Derived.Test.YtlgencbldbpbdaaGreatDoorMgEbD
namespace Go.Proofs.YtlgencbldbpbdaaGreatDoor
open Go.RowKit Fl
theorem drewN_below (B : Nat) (w : World) (n : Nat) : Below B w (w.drewN n) := Bdn (Below.refl B w) n
set_option maxRecDepth 100000 in
theorem k94 {x : Nat} {X : Int} (hx : RV x X) (p A n c : Nat) (before : Bool) (rs : List (Int × Int)) (w : World) (kp : w.cell? ⟨p, 0, none⟩ = some (.slice (some ⟨A, 0, none⟩) n c)) (hP : PR w A rs) (hl : rs.length = n) (h2 : 2 ≤ n) (hn : n ≤ 1000) :
    Calls Tryz.prog 94 #[.float .f64 x, .bool before, .pointer (some ⟨p, 0, none⟩)] w fun e w' => RetR (alongP rs X) e ∧ Below w.heap.size w w' := by
  subst hl
  have C := Lib.hid (k95 hx A rs c w hP h2 hn)
  clear hP h2 hn
  go_enter Tryz.func94, Tryz.ntmps94
  go_wp2_with (go_at_call 95; refine C.out.mono ?_; rintro e w2 ⟨⟨r, rfl, hr⟩, hb⟩; have HR := Lib.hid (And.intro hr hb); clear hr hb)
  go_ret
  exact ⟨⟨r, rfl, HR.out.1⟩, HR.out.2⟩
set_option maxRecDepth 100000 in
theorem k38 {x : Nat} {X : Int} (hx : RV x X) (before : Bool) (w : World) :
    Calls Tryz.prog 38 #[.float .f64 x, .bool before] w fun e w' => RetR X e ∧ Below w.heap.size w w' := by
  go_enter Tryz.func38, Tryz.ntmps38
  go_wp2_with fail
  go_ret
  exact ⟨⟨x, rfl, hx⟩, Below.refl _ _⟩
theorem k80 {x : Nat} {X : Int} (hx : RV x X) (n j : Nat) (j1 : 1 ≤ j) (j4 : j ≤ 4) {mw : Nat} (hm : RV mw (mP n j)) (bn bj bm : Nat) (before : Bool) (w : World)
    (kn : w.cell? ⟨bn, 0, none⟩ = some (.int .i64 n)) (kj : w.cell? ⟨bj, 0, none⟩ = some (.int .i64 j)) (km : w.cell? ⟨bm, 0, none⟩ = some (.float .f64 mw)) :
    Calls Tryz.prog 80 #[.float .f64 x, .bool before, .pointer (some ⟨bn, 0, none⟩), .pointer (some ⟨bj, 0, none⟩), .pointer (some ⟨bm, 0, none⟩)] w fun e w' => RetR (stepsP n j X before) e ∧ ∃ q, w' = w.drewN q := by
  have hj : j = 1 ∨ j = 2 ∨ j = 3 ∨ j = 4 := by omega
  rcases hj with rfl | rfl | rfl | rfl <;> cases before
  · exact k80_1f hx n hm bn bj bm w kn kj km
  · exact k80_1t hx n hm bn bj bm w kn kj km
  · exact k80_2f hx n hm bn bj bm w kn kj km
  · exact k80_2t hx n hm bn bj bm w kn kj km
  · exact k80_3f hx n hm bn bj bm w kn kj km
  · exact k80_3t hx n hm bn bj bm w kn kj km
  · exact k80_4f hx n hm bn bj bm w kn kj km
  · exact k80_4t hx n hm bn bj bm w kn kj km
/-- where a number is told: no NaN -/
def atN (z : Ez) (x : Int) (before : Bool) : Int :=
  match z with
  | .line => x
  | .curve a b c d => bentP (pl a) (pl b) (pl c) (pl d) x
  | .steps n j => stepsP n j x before
  | .pts l => alongP (rowsP l) x
theorem atN_eq (z : Ez) {x : Int} (h : ¬ x = 9223372036854775807) (before : Bool) : atP z x before = atN z x before := by
  unfold atP atN
  rw [if_neg h]
  cases z <;> rfl
set_option maxRecDepth 100000 in
theorem k15n {x : Nat} {X : Int} (hx : RV x X) (hX : feqP X X = false) (p : Option Addr) (before : Bool) (w : World) :
    Calls Tryz.prog 15 #[.pointer p, .float .f64 x, .bool before] w fun e w' => RetR 9223372036854775807 e ∧ Below w.heap.size w w' := by
  have q1 := f_ne x x hx.1 hx.1
  rw [hx.2, hX] at q1
  have C := Lib.hid (c135 w)
  go_enter Tryz.func15, Tryz.ntmps15
  go_wp2_with (go_at_call 48; refine C.out.mono ?_; rintro e w2 ⟨rfl, rfl⟩)
  go_ret
  exact ⟨⟨QN, rfl, U_QN, pl_QN⟩, Below.refl _ _⟩
set_option maxRecDepth 100000 in
theorem k15_line {x : Nat} {X : Int} (hx : RV x X) (hX : feqP X X = true) (b : Nat) (before : Bool) (w : World)  (kb : w.cell? ⟨b, 1, none⟩ = some (.func (.func 38) #[] #[])) :
    Calls Tryz.prog 15 #[.pointer (some ⟨b, 0, none⟩), .float .f64 x, .bool before] w fun e w' => RetR (X) e ∧ Below w.heap.size w w' := by
  have q1 := f_ne x x hx.1 hx.1
  rw [hx.2, hX] at q1
  obtain ⟨R, hR0⟩ : ∃ R, R = X := ⟨_, rfl⟩
  have C : Hid (Calls Tryz.prog 38 #[.float .f64 x, .bool before] w fun e w' => RetR R e ∧ Below w.heap.size w w') := Lib.hid (by rw [hR0]; exact k38 hx before w)
  rw [← hR0]
  clear hR0
  go_enter Tryz.func15, Tryz.ntmps15
  go_wp2_with (go_at_call 38; refine C.out.mono ?_; rintro e w2 ⟨⟨r, rfl, hr⟩, hb⟩; have HR := Lib.hid (And.intro hr hb); clear hr hb)
  go_ret
  exact ⟨⟨r, rfl, HR.out.1⟩, HR.out.2⟩
set_option maxRecDepth 100000 in
theorem k15_curve {x : Nat} {X : Int} (hx : RV x X) (hX : feqP X X = true) (b : Nat) (before : Bool) (w : World) (a b1 c d : Nat) (ha : U a) (hb : U b1) (hc : U c) (hd : U d) (p q r s : Nat) (kp : w.cell? ⟨p, 0, none⟩ = some (.float .f64 a)) (kq : w.cell? ⟨q, 0, none⟩ = some (.float .f64 b1)) (kr : w.cell? ⟨r, 0, none⟩ = some (.float .f64 c)) (ks : w.cell? ⟨s, 0, none⟩ = some (.float .f64 d)) (kb : w.cell? ⟨b, 1, none⟩ = some (.func (.func 78) #[] #[ptr p, ptr q, ptr r, ptr s])) :
    Calls Tryz.prog 15 #[.pointer (some ⟨b, 0, none⟩), .float .f64 x, .bool before] w fun e w' => RetR (bentP (pl a) (pl b1) (pl c) (pl d) X) e ∧ Below w.heap.size w w' := by
  have q1 := f_ne x x hx.1 hx.1
  rw [hx.2, hX] at q1
  obtain ⟨R, hR0⟩ : ∃ R, R = bentP (pl a) (pl b1) (pl c) (pl d) X := ⟨_, rfl⟩
  have C : Hid (Calls Tryz.prog 78 #[.float .f64 x, .bool before, ptr p, ptr q, ptr r, ptr s] w fun e w' => RetR R e ∧ Below w.heap.size w w') := Lib.hid (by rw [hR0]; exact (k78 hx a b1 c d ha hb hc hd p q r s before w kp kq kr ks).mono (fun _ _ h => ⟨h.1, by obtain ⟨n, rfl⟩ := h.2; exact drewN_below _ _ _⟩))
  rw [← hR0]
  clear hR0 ha hb hc hd kp kq kr ks
  go_enter Tryz.func15, Tryz.ntmps15
  go_wp2_with (go_at_call 78; refine C.out.mono ?_; rintro e w2 ⟨⟨r, rfl, hr⟩, hb⟩; have HR := Lib.hid (And.intro hr hb); clear hr hb)
  go_ret
  exact ⟨⟨r, rfl, HR.out.1⟩, HR.out.2⟩
set_option maxRecDepth 100000 in
theorem k15_steps {x : Nat} {X : Int} (hx : RV x X) (hX : feqP X X = true) (b : Nat) (before : Bool) (w : World) (n j : Nat) (j1 : 1 ≤ j) (j4 : j ≤ 4) {mw : Nat} (hm : RV mw (mP n j)) (p q r : Nat) (kn : w.cell? ⟨p, 0, none⟩ = some (.int .i64 n)) (kj : w.cell? ⟨q, 0, none⟩ = some (.int .i64 j)) (km : w.cell? ⟨r, 0, none⟩ = some (.float .f64 mw)) (kb : w.cell? ⟨b, 1, none⟩ = some (.func (.func 80) #[] #[ptr p, ptr q, ptr r])) :
    Calls Tryz.prog 15 #[.pointer (some ⟨b, 0, none⟩), .float .f64 x, .bool before] w fun e w' => RetR (stepsP n j X before) e ∧ Below w.heap.size w w' := by
  have q1 := f_ne x x hx.1 hx.1
  rw [hx.2, hX] at q1
  obtain ⟨R, hR0⟩ : ∃ R, R = stepsP n j X before := ⟨_, rfl⟩
  have C : Hid (Calls Tryz.prog 80 #[.float .f64 x, .bool before, ptr p, ptr q, ptr r] w fun e w' => RetR R e ∧ Below w.heap.size w w') := Lib.hid (by rw [hR0]; exact (k80 hx n j j1 j4 hm p q r before w kn kj km).mono (fun _ _ h => ⟨h.1, by obtain ⟨n, rfl⟩ := h.2; exact drewN_below _ _ _⟩))
  rw [← hR0]
  clear hR0 j1 j4 hm kn kj km
  go_enter Tryz.func15, Tryz.ntmps15
  go_wp2_with (go_at_call 80; refine C.out.mono ?_; rintro e w2 ⟨⟨r, rfl, hr⟩, hb⟩; have HR := Lib.hid (And.intro hr hb); clear hr hb)
  go_ret
  exact ⟨⟨r, rfl, HR.out.1⟩, HR.out.2⟩
set_option maxRecDepth 100000 in
theorem k15_pts {x : Nat} {X : Int} (hx : RV x X) (hX : feqP X X = true) (b : Nat) (before : Bool) (w : World) (rs : List (Int × Int)) (p A n c : Nat) (kp : w.cell? ⟨p, 0, none⟩ = some (.slice (some ⟨A, 0, none⟩) n c)) (hP : PR w A rs) (hl : rs.length = n) (h2 : 2 ≤ n) (hn : n ≤ 1000) (kb : w.cell? ⟨b, 1, none⟩ = some (.func (.func 94) #[] #[ptr p])) :
    Calls Tryz.prog 15 #[.pointer (some ⟨b, 0, none⟩), .float .f64 x, .bool before] w fun e w' => RetR (alongP rs X) e ∧ Below w.heap.size w w' := by
  have q1 := f_ne x x hx.1 hx.1
  rw [hx.2, hX] at q1
  obtain ⟨R, hR0⟩ : ∃ R, R = alongP rs X := ⟨_, rfl⟩
  have C : Hid (Calls Tryz.prog 94 #[.float .f64 x, .bool before, ptr p] w fun e w' => RetR R e ∧ Below w.heap.size w w') := Lib.hid (by rw [hR0]; exact k94 hx p A n c before rs w kp hP hl h2 hn)
  rw [← hR0]
  clear hR0 kp hP hl h2 hn
  go_enter Tryz.func15, Tryz.ntmps15
  go_wp2_with (go_at_call 94; refine C.out.mono ?_; rintro e w2 ⟨⟨r, rfl, hr⟩, hb⟩; have HR := Lib.hid (And.intro hr hb); clear hr hb)
  go_ret
  exact ⟨⟨r, rfl, HR.out.1⟩, HR.out.2⟩
theorem k15 {x : Nat} {X : Int} (hx : RV x X) (b : Nat) (z : Ez) (before : Bool) (w : World) (hz : EzAt w b z) :
    Calls Tryz.prog 15 #[.pointer (some ⟨b, 0, none⟩), .float .f64 x, .bool before] w fun e w' => RetR (atP z X before) e ∧ Below w.heap.size w w' := by
  by_cases hX : X = 9223372036854775807
  · have e : atP z X before = 9223372036854775807 := by unfold atP; rw [if_pos hX, hX]
    rw [e]
    exact k15n hx (by unfold feqP; rw [hX]; rfl) _ before w
  · have hf : feqP X X = true := by unfold feqP; simp [hX]
    obtain ⟨-, s, v, -, -, kb, f⟩ := hz
    rw [atN_eq z hX]
    cases z with
    | line =>
      obtain rfl : v = .func (.func 38) #[] #[] := f
      exact k15_line hx hf b before w kb
    | curve a b1 c d =>
      obtain ⟨ha, hb, hc, hd, p, q, r, s, rfl, -, -, -, -, c1, c2, c3, c4⟩ := f
      exact k15_curve hx hf b before w a b1 c d ha hb hc hd p q r s c1 c2 c3 c4 kb
    | steps n j =>
      obtain ⟨-, -, j1, j4, p, q, r, m, rfl, -, -, -, c1, c2, c3, hm⟩ := f
      exact k15_steps hx hf b before w n j j1 j4 hm p q r c1 c2 c3 kb
    | pts l =>
      obtain ⟨p, A, n, c, rfl, -, lA, n2, nn, -, hl, c1, hk⟩ := f
      exact k15_pts hx hf b before w (rowsP l) p A n c c1 ⟨lA, hk⟩ hl n2 nn kb
end Go.Proofs.YtlgencbldbpbdaaGreatDoor
