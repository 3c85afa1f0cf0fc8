/- calc: both, nearest. -/
import Derived.Test.YthohhepoddnbnaaGreatDoorCbA
import Derived.Test.YthohhepoddnbnaaGreatDoorMgAccB
namespace Go.Proofs.YthohhepoddnbnaaGreatDoor
open Go.RowKit Fl

def mE2 (x y : Nat) : Nat := min (pE (rg x)) (pE (rg y))
theorem pE_le (r : Nat) (h : r < 9218868437227405312) : pE r ≤ 2045 := by
  unfold pE
  have e52 : (2 : Nat) ^ 52 = 4503599627370496 := by decide
  rw [e52]
  omega
set_option maxRecDepth 100000 in
set_option maxHeartbeats 1000000 in
theorem lBoth (x y : Nat) (w : World) (hx : U x) (hy : U y) (fx : rg x < 9218868437227405312) (fy : rg y < 9218868437227405312) :
    Calls Tryz.prog 38 #[.float .f64 x, .float .f64 y] w fun e w' => Below w.heap.size w w' ∧ ∃ v u, e = .returned (.tuple #[v, u, .int .i64 ((mE2 x y : Int) - 1074)]) ∧ NV w' v (pM (rg x) * 2 ^ (pE (rg x) - mE2 x y)) ∧ NV w' u (pM (rg y) * 2 ^ (pE (rg y) - mE2 x y)) := by
  have C1 := Lib.hid (fun w => lWhole x w hx fx)
  have C2 := Lib.hid (fun w => lWhole y w hy fy)
  have l1 := pE_le _ fx
  have l2 := pE_le _ fy
  have b1 : blen (pM (rg x)) ≤ 53 := blen_lt _ _ (pM_lt _)
  have b2 : blen (pM (rg y)) ≤ 53 := blen_lt _ _ (pM_lt _)
  unfold mE2
  generalize pM (rg x) = M1 at *
  generalize pM (rg y) = M2 at *
  generalize pE (rg x) = E1 at *
  generalize pE (rg y) = E2 at *
  obtain ⟨E0, hE0⟩ : ∃ E0, E0 = min E1 E2 := ⟨_, rfl⟩
  rw [← hE0]
  have hmin : min ((E1 : Int) - 1074) ((E2 : Int) - 1074) = (E0 : Int) - 1074 := by omega
  have ea : (E1 : Int) - 1074 - ((E0 : Int) - 1074) = ((E1 - E0 : Nat) : Int) := by omega
  have eb : (E2 : Int) - 1074 - ((E0 : Int) - 1074) = ((E2 - E0 : Nat) : Int) := by omega
  have k1 : (E1 : Int) ≤ 2045 := by omega
  have k2 : (E2 : Int) ≤ 2045 := by omega
  have k0 : (E0 : Int) ≤ 2045 := by omega
  have C3 := Lib.hid (fun (w : World) v (h : NV w v M1) => c40 (n := E1 - E0) h (by omega))
  have C4 := Lib.hid (fun (w : World) v (h : NV w v M2) => c40 (n := E2 - E0) h (by omega))
  clear hx hy fx fy l1 l2 b1 b2 hE0
  go_enter Tryz.func38, Tryz.ntmps38
  go_upto_region 2 with (go_at_call 79; refine (C1.out _).mono ?_; rintro e w1 ⟨hb1, v, rfl, hv⟩; have I := Lib.hid (And.intro hb1 hv); clear hb1 hv C1)
  go_upto_region 3 with (go_at_call 79; refine (C2.out _).mono ?_; rintro e w2 ⟨hb2, u, rfl, hu⟩; have J := Lib.hid (And.intro (I.out.1.trans (hb2.mono I.out.1.size)) (And.intro (I.out.2.below hb2) hu)); clear hb2 hu C2 I)
  go_upto_region 4 with fail
  go_wp2_with (first
    | (go_at_call 40; (try rw [hmin]); (try rw [ea]); refine (C3.out _ _ J.out.2.1).mono ?_; rintro e w3 ⟨hb3, v3, rfl, hv3⟩; have K := Lib.hid (And.intro (J.out.1.trans (hb3.mono J.out.1.size)) (And.intro hv3 (J.out.2.2.below hb3))); clear hb3 hv3 C3 J)
    | (go_at_call 40; (try rw [hmin]); (try rw [eb]); refine (C4.out _ _ K.out.2.2).mono ?_; rintro e w4 ⟨hb4, v4, rfl, hv4⟩; have L := Lib.hid (And.intro (K.out.1.trans (hb4.mono K.out.1.size)) (And.intro (K.out.2.1.below hb4) hv4)); clear hb4 hv4 C4 K))
  refine bodyPost_ret (results_tmp3 rfl _ _ _) rfl ?_
  exact ⟨L.out.1, _, _, rfl, L.out.2.1, L.out.2.2⟩
theorem ng_run (r : Nat) : ∀ w, (Op.unary .neg (.float .f64 r)).run Tryz.prog w = .ok (.float .f64 (ng r)) w := fun _ => rfl
theorem ng_word (r : Nat) (hr : r < 9223372036854775808) : ng r = word true r := by
  have h2 : sg r = false := by unfold sg; exact decide_eq_false (by omega)
  rw [ng_eq r (by unfold U; omega), h2, rg_of_not h2]
  rfl
theorem word_false (r : Nat) : word false r = r := rfl
set_option maxRecDepth 100000 in
set_option maxHeartbeats 1000000 in
theorem lNear0 {w : World} {v : Value} {r : Nat} {e : Int} (neg : Bool) (hr : r < 9223372036854775808) (C : Hid (Calls Tryz.prog 84 #[v, .int .i64 e, .bool false] w fun x w' => x = .returned (.float .f64 r) ∧ Below w.heap.size w w')) :
    Calls Tryz.prog 44 #[v, .int .i64 e, .bool neg] w fun x w' => x = .returned (.float .f64 (word neg r)) ∧ Below w.heap.size w w' := by
  cases neg
  · rw [word_false]
    clear hr
    go_enter Tryz.func44, Tryz.ntmps44
    go_wp2_with (go_at_call 84; refine C.out.mono ?_; rintro x w' ⟨rfl, hb⟩; have B := Lib.hid hb; clear hb C)
    go_ret
    exact ⟨rfl, B.out⟩
  · rw [← ng_word r hr]
    clear hr
    have hn := ng_run r
    go_enter Tryz.func44, Tryz.ntmps44
    go_wp2_with (go_at_call 84; refine C.out.mono ?_; rintro x w' ⟨rfl, hb⟩; have B := Lib.hid hb; clear hb C)
    go_ret
    exact ⟨rfl, B.out⟩
theorem lNear {w : World} {v : Value} {a : Nat} {e : Int} (neg : Bool) (hv : NV w v a) (hs : blen a ≤ 4000) (he : -1074 ≤ e) (he2 : e ≤ 990) :
    Calls Tryz.prog 44 #[v, .int .i64 e, .bool neg] w fun x w' => x = .returned (.float .f64 (word neg (min (near a e) INF))) ∧ Below w.heap.size w w' :=
  lNear0 neg (min_inf_lt _) (Lib.hid (lNearest hv hs he he2))
end Go.Proofs.YthohhepoddnbnaaGreatDoor
