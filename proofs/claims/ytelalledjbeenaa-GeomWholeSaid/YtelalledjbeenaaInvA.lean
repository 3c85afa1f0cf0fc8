/- Invert's closures, three; which matrices can be undone: printed by geo21.py. -/
import Derived.Test.YtelalledjbeenaaGeoZ
namespace Go.Proofs.Ytelalledjbeenaa
open Go.RowKit Fl

def upP (a b c x y z : Int) : Int := opP .add (lessP a b c x) (opP .mul y z)
def downP (a b c x y z : Int) : Int := opP .sub (lessP a b c x) (opP .mul y z)
set_option maxRecDepth 100000 in
set_option maxHeartbeats 2000000 in
theorem k158n {a b c d : Nat} {A B C D : Int} (ha : RV a A) (hb : RV b B) (hc : RV c C) (hd : RV d D) (w : World) :
    Calls Try.prog 158 #[.float .f64 a, .float .f64 b, .float .f64 c, .float .f64 d] w fun e w' => RetR (lessP A B C D) e ∧ ∃ n, w' = w.drewN n := by
  have H := Lib.hid (And.intro ha (And.intro hb (And.intro hc hd)))
  have hA := fun x y w => run_fop (P := Try.prog) .sub rfl 24 x y w
  have hM := fun x y w => run_fop (P := Try.prog) .mul rfl 24 x y w
  clear ha hb hc hd
  go_enter Try.func158, Try.ntmps158
  go_wp2
  go_ret
  exact ⟨⟨_, rfl, RV.fop .sub (RV.fop .mul H.out.1 H.out.2.1 _) (RV.fop .mul H.out.2.2.1 H.out.2.2.2 _) _⟩, _, rfl⟩
set_option maxRecDepth 100000 in
set_option maxHeartbeats 2000000 in
theorem k157 {a b c x y z : Nat} {A B C X Y Z : Int} (ha : RV a A) (hb : RV b B) (hc : RV c C) (hx : RV x X) (hy : RV y Y) (hz : RV z Z) (w : World) :
    Calls Try.prog 157 #[.float .f64 a, .float .f64 b, .float .f64 c, .float .f64 x, .float .f64 y, .float .f64 z] w fun e w' => RetR (upP A B C X Y Z) e ∧ ∃ n, w' = w.drewN n := by
  have H := Lib.hid (And.intro ha (And.intro hb (And.intro hc (And.intro hx (And.intro hy hz)))))
  have hA := fun x y w => run_fop (P := Try.prog) .add rfl 24 x y w
  have hM := fun x y w => run_fop (P := Try.prog) .mul rfl 24 x y w
  clear ha hb hc hx hy hz
  go_enter Try.func157, Try.ntmps157
  go_wp2_with fail
  refine (k158n H.out.1 H.out.2.1 H.out.2.2.1 H.out.2.2.2.1 _).mono ?_
  rintro e w1 ⟨⟨r, rfl, hr⟩, n, rfl⟩
  have HR := Lib.hid hr
  clear hr
  go_wp2
  go_ret
  exact ⟨⟨_, rfl, RV.fop .add HR.out (RV.fop .mul H.out.2.2.2.2.1 H.out.2.2.2.2.2 _) _⟩, _, rfl⟩
set_option maxRecDepth 100000 in
set_option maxHeartbeats 2000000 in
theorem k159 {a b c x y z : Nat} {A B C X Y Z : Int} (ha : RV a A) (hb : RV b B) (hc : RV c C) (hx : RV x X) (hy : RV y Y) (hz : RV z Z) (w : World) :
    Calls Try.prog 159 #[.float .f64 a, .float .f64 b, .float .f64 c, .float .f64 x, .float .f64 y, .float .f64 z] w fun e w' => RetR (downP A B C X Y Z) e ∧ ∃ n, w' = w.drewN n := by
  have H := Lib.hid (And.intro ha (And.intro hb (And.intro hc (And.intro hx (And.intro hy hz)))))
  have hA := fun x y w => run_fop (P := Try.prog) .sub rfl 24 x y w
  have hM := fun x y w => run_fop (P := Try.prog) .mul rfl 24 x y w
  clear ha hb hc hx hy hz
  go_enter Try.func159, Try.ntmps159
  go_wp2_with fail
  refine (k158n H.out.1 H.out.2.1 H.out.2.2.1 H.out.2.2.2.1 _).mono ?_
  rintro e w1 ⟨⟨r, rfl, hr⟩, n, rfl⟩
  have HR := Lib.hid hr
  clear hr
  go_wp2
  go_ret
  exact ⟨⟨_, rfl, RV.fop .sub HR.out (RV.fop .mul H.out.2.2.2.2.1 H.out.2.2.2.2.2 _) _⟩, _, rfl⟩
set_option maxRecDepth 100000 in
set_option maxHeartbeats 2000000 in
theorem k161u {a b c x y z : Nat} {A B C X Y Z : Int} (ha : RV a A) (hb : RV b B) (hc : RV c C) (hx : RV x X) (hy : RV y Y) (hz : RV z Z) (w : World) :
    Calls Try.prog 161 #[.float .f64 a, .float .f64 b, .float .f64 c, .float .f64 x, .float .f64 y, .float .f64 z, .int .i64 1] w fun e w' => RetR (upP A B C X Y Z) e ∧ ∃ n, w' = w.drewN n := by
  have H := Lib.hid (And.intro ha (And.intro hb (And.intro hc (And.intro hx (And.intro hy hz)))))
  have hS := fun x y w => run_fop (P := Try.prog) .sub rfl 24 x y w
  have hA := fun x y w => run_fop (P := Try.prog) .add rfl 24 x y w
  have hM := fun x y w => run_fop (P := Try.prog) .mul rfl 24 x y w
  clear ha hb hc hx hy hz
  go_enter Try.func161, Try.ntmps161
  go_wp2
  go_ret
  exact ⟨⟨_, rfl, RV.fop .add (RV.fop .sub (RV.fop .mul H.out.1 H.out.2.1 _) (RV.fop .mul H.out.2.2.1 H.out.2.2.2.1 _) _) (RV.fop .mul H.out.2.2.2.2.1 H.out.2.2.2.2.2 _) _⟩, _, rfl⟩
set_option maxRecDepth 100000 in
set_option maxHeartbeats 2000000 in
theorem k161d {a b c x y z : Nat} {A B C X Y Z : Int} (ha : RV a A) (hb : RV b B) (hc : RV c C) (hx : RV x X) (hy : RV y Y) (hz : RV z Z) (w : World) :
    Calls Try.prog 161 #[.float .f64 a, .float .f64 b, .float .f64 c, .float .f64 x, .float .f64 y, .float .f64 z, .int .i64 (-1)] w fun e w' => RetR (downP A B C X Y Z) e ∧ ∃ n, w' = w.drewN n := by
  have H := Lib.hid (And.intro ha (And.intro hb (And.intro hc (And.intro hx (And.intro hy hz)))))
  have hA := fun x y w => run_fop (P := Try.prog) .sub rfl 24 x y w
  have hM := fun x y w => run_fop (P := Try.prog) .mul rfl 24 x y w
  clear ha hb hc hx hy hz
  go_enter Try.func161, Try.ntmps161
  go_wp2
  go_ret
  exact ⟨⟨_, rfl, RV.fop .sub (RV.fop .sub (RV.fop .mul H.out.1 H.out.2.1 _) (RV.fop .mul H.out.2.2.1 H.out.2.2.2.1 _) _) (RV.fop .mul H.out.2.2.2.2.1 H.out.2.2.2.2.2 _) _⟩, _, rfl⟩
/-- what an inverse has, times the determinant -/
def adjP (m : Nat → Int) : Nat → Int
  | 0 => upP (m 5) (minors8 m 5) (m 6) (minors8 m 4) (m 7) (minors8 m 3)
  | 1 => downP (m 2) (minors8 m 4) (m 1) (minors8 m 5) (m 3) (minors8 m 3)
  | 2 => upP (m 13) (minors0 m 5) (m 14) (minors0 m 4) (m 15) (minors0 m 3)
  | 3 => downP (m 10) (minors0 m 4) (m 9) (minors0 m 5) (m 11) (minors0 m 3)
  | 4 => downP (m 6) (minors8 m 2) (m 4) (minors8 m 5) (m 7) (minors8 m 1)
  | 5 => upP (m 0) (minors8 m 5) (m 2) (minors8 m 2) (m 3) (minors8 m 1)
  | 6 => downP (m 14) (minors0 m 2) (m 12) (minors0 m 5) (m 15) (minors0 m 1)
  | 7 => upP (m 8) (minors0 m 5) (m 10) (minors0 m 2) (m 11) (minors0 m 1)
  | 8 => upP (m 4) (minors8 m 4) (m 5) (minors8 m 2) (m 7) (minors8 m 0)
  | 9 => downP (m 1) (minors8 m 2) (m 0) (minors8 m 4) (m 3) (minors8 m 0)
  | 10 => upP (m 12) (minors0 m 4) (m 13) (minors0 m 2) (m 15) (minors0 m 0)
  | 11 => downP (m 9) (minors0 m 2) (m 8) (minors0 m 4) (m 11) (minors0 m 0)
  | 12 => downP (m 5) (minors8 m 1) (m 4) (minors8 m 3) (m 6) (minors8 m 0)
  | 13 => upP (m 0) (minors8 m 3) (m 1) (minors8 m 1) (m 2) (minors8 m 0)
  | 14 => downP (m 13) (minors0 m 1) (m 12) (minors0 m 3) (m 14) (minors0 m 0)
  | _ => upP (m 8) (minors0 m 3) (m 9) (minors0 m 1) (m 10) (minors0 m 0)
def invOk (D : Int) : Bool := decide (-9218868437227405313 < D ∧ D < 9218868437227405312) && !feqP D 0
def invP (m : Nat → Int) (j : Nat) : Int := opP .quo (adjP m j) (detP m)
def InvR (m : Nat → Int) (e : Ending) : Prop := ∃ os : List Nat, e = .returned (.tuple #[.agg (os.map (Value.float .f64)).toArray, .bool (invOk (detP m))]) ∧ MU os ∧ ∀ j, j < 16 → mp os j = if invOk (detP m) then invP m j else 9223372036854775807
theorem fin_place (x : Nat) : fin x = decide (-9218868437227405313 < pl x ∧ pl x < 9218868437227405312) := by
  by_cases h : fin x = true
  · rw [h]
    symm
    refine decide_eq_true ?_
    have hl := fin_true h
    have hn := fin_not_nan h
    unfold INF at hl
    cases hs : sg x
    · rw [pl_pos hn hs]; omega
    · rw [pl_neg hn hs]; omega
  · have h' : fin x = false := by simpa using h
    rw [h']
    symm
    refine decide_eq_false ?_
    have hl := fin_false h'
    unfold INF at hl
    by_cases hn : isN x = true
    · rw [pl_nan hn]; unfold NP; omega
    · have hn : isN x = false := by simpa using hn
      cases hs : sg x
      · rw [pl_pos hn hs]; omega
      · rw [pl_neg hn hs]; omega
theorem rg_parts (x : Nat) : rg x = eM x * 4503599627370496 + fM x ∧ fM x < 4503599627370496 ∧ eM x < 2048 := by unfold rg eM fM; omega
theorem cls_place (x : Nat) (hx : U x) : (invOk (pl x) = true → pCls x = 1 ∨ pCls x = 2) ∧ (invOk (pl x) = false → pCls x = 0 ∨ pCls x = 3 ∨ pCls x = 4) := by
  obtain ⟨h1, h2, h3⟩ := rg_parts x
  have hf := fin_place x
  unfold invOk pCls
  rw [← hf]
  by_cases hfx : fin x = true
  · have hl := fin_true hfx
    have hn := fin_not_nan hfx
    unfold INF at hl
    rw [hfx, Bool.true_and]
    have hz : feqP (pl x) 0 = decide (rg x = 0) := by
      unfold feqP zk
      cases hs : sg x
      · rw [pl_pos hn hs, Bool.eq_iff_iff]; simp; omega
      · rw [pl_neg hn hs, Bool.eq_iff_iff]; simp; omega
    rw [hz]
    by_cases h0 : rg x = 0
    · rw [decide_eq_true h0]
      refine ⟨fun h => by simp at h, fun _ => .inl ?_⟩
      rw [if_neg (by omega), if_pos (by omega), if_pos (by omega)]
    · rw [decide_eq_false h0]
      refine ⟨fun _ => ?_, fun h => by simp at h⟩
      rw [if_neg (by omega)]
      by_cases he : eM x = 0
      · rw [if_pos he, if_neg (by omega)]; exact .inl rfl
      · rw [if_neg he]; exact .inr rfl
  · have hfx : fin x = false := by simpa using hfx
    have hl := fin_false hfx
    unfold INF at hl
    rw [hfx, Bool.false_and]
    refine ⟨fun h => absurd h Bool.false_ne_true, fun _ => .inr ?_⟩
    rw [if_pos (by omega)]
    split
    · exact .inl rfl
    · exact .inr rfl
theorem cls_atW (x : Nat) (hx : U x) : pCls x = pCls (atW (pl x)) := by
  by_cases hn : isN x = true
  · have h1 : rg x > 9218868437227405312 := by unfold isN INF at hn; exact of_decide_eq_true hn
    obtain ⟨h2, h3, h4⟩ := rg_parts x
    rw [pl_nan hn]
    have : pCls (atW NP) = 4 := by decide
    rw [this]
    unfold pCls
    rw [if_pos (by omega), if_neg (by omega)]
  · rw [atW_pl x hx (by simpa using hn)]
theorem cls_of (D : Int) (x : Nat) (h : RV x D) : pCls x = pCls (atW D) := by rw [← h.2]; exact cls_atW x h.1
end Go.Proofs.Ytelalledjbeenaa
