/- The walk of StyleSets. -/
import Derived.Test.YtphoggimeaejnaaGreatDoorStK
import Derived.BigQuiet
import Derived.Deep.DeepCutAuto
import Derived.Deep.CutBlock
namespace Go.Proofs.YtphoggimeaejnaaGreatDoor
open Go.RowKit Fl

def NMS : Array Value := #[.string (nm 0), .string (nm 1), .string (nm 2), .string (nm 3), .string (nm 4), .string (nm 5), .string (nm 6)]
theorem nms_get (j : Nat) (h : j < 7) : NMS[j]? = some (.string (nm j)) := by
  match j, h with
  | 0, _ => rfl
  | 1, _ => rfl
  | 2, _ => rfl
  | 3, _ => rfl
  | 4, _ => rfl
  | 5, _ => rfl
  | 6, _ => rfl
  | j + 7, h => exact absurd h (by omega)
theorem lay_b {W w : World} (B : Below W.heap.size W w) (g : Nat → Int) (f : Nat → Nat) : RI w.heap.size (lkC g f) W ((w.alloc (.cells #[.int .i64 0, .float .f64 0, .float .f64 0, .float .f64 0, .int .i64 0, .float .f64 0, .int .i64 0, .float .f64 0, .int .i64 0, .float .f64 0, .int .i64 0, .float .f64 0, .int .i64 0, .float .f64 0, .int .i64 0, .float .f64 0, .int .i64 0, .float .f64 0, .int .i64 0, .float .f64 0, .int .i64 0, .float .f64 0, .int .i64 0, .float .f64 0, .int .i64 0, .float .f64 0, .int .i64 0, .float .f64 0, .int .i64 0, .float .f64 0, .int .i64 0, .float .f64 0, .float .f64 0, .float .f64 0, .int .i64 0, .float .f64 0, .int .i64 0, .float .f64 0, .float .f64 0, .float .f64 0, .float .f64 0, .float .f64 0, .float .f64 0, .float .f64 0, .float .f64 0, .float .f64 0, .float .f64 0, .float .f64 0, .float .f64 0, .float .f64 0, .float .f64 0, .float .f64 0, .float .f64 0, .float .f64 0] 31)).setCells w.heap.size 0 (lkC g f).toArray.toList) := by
  obtain ⟨_, h2, h3, h4⟩ := lay_new g f w
  rw [z54] at h2 h3 h4
  exact ⟨h2, B.trans (h3.mono B.size), h4⟩
theorem ord_pl (x y : Nat) (hx : U x) (hy : U y) (nx : pl x ≠ 9223372036854775807) (ny : pl y ≠ 9223372036854775807) : FloatKind.f64.format.order x y = some (if zk (pl x) < zk (pl y) then .lt else if zk (pl x) = zk (pl y) then .eq else .gt) := by
  have h1 : isN x = false := by rw [isN_iff_pl]; exact decide_eq_false nx
  have h2 : isN y = false := by rw [isN_iff_pl]; exact decide_eq_false ny
  rw [f64_order x y hx hy, h1, h2, skey_pl h1, skey_pl h2, compare_int]
  rfl
/-- the last two regions' tests -/
inductive OC (x v : Nat) : Prop
  | nan (h : FloatKind.f64.format.order x x = none)
  | low (a : FloatKind.f64.format.order x x = some .eq) (b : FloatKind.f64.format.order x 0 = some .lt)
  | zero (a : FloatKind.f64.format.order x x = some .eq) (b : FloatKind.f64.format.order x 0 = some .eq) (c : FloatKind.f64.format.order x 4607182418800017408 = some .lt)
  | high (a : FloatKind.f64.format.order x x = some .eq) (b : FloatKind.f64.format.order x 0 = some .gt) (c : FloatKind.f64.format.order x 4607182418800017408 = some .gt)
  | one (a : FloatKind.f64.format.order x x = some .eq) (b : FloatKind.f64.format.order x 0 = some .gt) (c : FloatKind.f64.format.order x 4607182418800017408 = some .eq) (d : FloatKind.f64.format.order v x = some .eq)
  | unit (a : FloatKind.f64.format.order x x = some .eq) (b : FloatKind.f64.format.order x 0 = some .gt) (c : FloatKind.f64.format.order x 4607182418800017408 = some .lt) (d : FloatKind.f64.format.order v x = some .eq)
theorem oc (x v j : Nat) (hx : U x) (hv : U v) (h : pl v = sP j (pl x)) : OC x v ∧ FloatKind.f64.format.order v v = some .eq := by
  have e0 : pl 0 = 0 := by decide
  have e1 : pl 4607182418800017408 = 4607182418800017408 := by decide
  have z0 : zk 0 = 0 := rfl
  have z1 : zk 4607182418800017408 = 4607182418800017408 := rfl
  have nv : pl v ≠ 9223372036854775807 := by rw [h]; exact sP_ne j _
  have ev : FloatKind.f64.format.order v v = some .eq := by
    rw [ord_pl v v hv hv nv nv, if_neg (Int.lt_irrefl _), if_pos rfl]
  refine ⟨?_, ev⟩
  by_cases nx : pl x = 9223372036854775807
  · refine .nan ?_
    have h1 : isN x = true := by rw [isN_iff_pl]; exact decide_eq_true nx
    rw [f64_order x x hx hx, h1]
    rfl
  · have a : FloatKind.f64.format.order x x = some .eq := by
      rw [ord_pl x x hx hx nx nx, if_neg (Int.lt_irrefl _), if_pos rfl]
    have o0 := ord_pl x 0 hx U_0 nx (by rw [e0]; decide)
    have o1 := ord_pl x 4607182418800017408 hx U_ONE nx (by rw [e1]; decide)
    rw [e0, z0] at o0
    rw [e1, z1] at o1
    rcases Int.lt_trichotomy (zk (pl x)) 0 with c | c | c
    · rw [if_pos c] at o0
      exact .low a o0
    · rw [c, if_neg (by decide), if_pos rfl] at o0
      rw [c, if_pos (by decide)] at o1
      exact .zero a o0 o1
    · rw [if_neg (by omega), if_neg (by omega)] at o0
      have hp : 0 < pl x ∧ zk (pl x) = pl x := by
        unfold zk at c ⊢
        split at c
        · omega
        · rename_i hh
          exact ⟨c, if_neg hh⟩
      have hvx : pl x ≤ 4607182418800017408 → FloatKind.f64.format.order v x = some .eq := fun hle => by
        have e : pl v = pl x := by rw [h]; exact sP_unit j _ hp.1 hle
        rw [ord_pl v x hv hx nv nx, e, if_neg (Int.lt_irrefl _), if_pos rfl]
      rcases Int.lt_trichotomy (pl x) 4607182418800017408 with d | d | d
      · rw [hp.2, if_pos d] at o1
        exact .unit a o0 o1 (hvx (by omega))
      · rw [hp.2, if_neg (by omega), if_pos d] at o1
        exact .one a o0 o1 (hvx (by omega))
      · rw [hp.2, if_neg (by omega), if_neg (by omega)] at o1
        exact .high a o0 o1
theorem tell_put (j : Nat) (hj : j < 7) (g : Nat → Int) (f : Nat → Nat) : tell j (putG j g) f = (f (cellK j), true) := by
  unfold putG
  rw [if_pos hj]
  match j, hj with
  | 0, _ => rfl
  | 1, _ => rfl
  | 2, _ => rfl
  | 3, _ => rfl
  | 4, _ => rfl
  | 5, _ => rfl
  | 6, _ => rfl
  | j + 7, h => exact absurd h (by omega)
theorem putG_again (j : Nat) (hj : j < 7) (g : Nat → Int) : putG j (putG j g) = putG j g := by
  unfold putG
  rw [if_pos hj, if_pos hj]
  funext i
  match j, hj with
  | 0, _ => rfl
  | 1, _ => rfl
  | 2, _ => rfl
  | 3, _ => rfl
  | 4, _ => rfl
  | 5, _ => simp only [setG, updG]; split <;> rfl
  | 6, _ => simp only [setG, updG]; split <;> rfl
  | j + 7, h => exact absurd h (by omega)
theorem put10 (j : Nat) (hj : j < 7) (g : Nat → Int) (f : Nat → Nat) (hf : ∀ i, U (f i)) (x : Nat) (hx : U x) (w : World) : Calls Tryz.prog 10 #[.agg (lkC g f).toArray, .string (nm j), .float .f64 x] w fun e w' => (∃ f', e = .returned (.tuple #[.agg (lkC (putG j g) f').toArray, .int .i64 0]) ∧ (∀ i, pl (f' i) = putP j x f i) ∧ ∀ i, U (f' i)) ∧ Below w.heap.size w w' := by
  have h : Calls Tryz.prog 10 #[.agg (lkC g f).toArray, .string (nm j), .float .f64 x] w fun e w' => (∃ f', e = .returned (.tuple #[.agg (lkC (putG (K (nm j)) g) f').toArray, if K (nm j) < 7 then .int .i64 0 else .int .i64 1]) ∧ (∀ i, pl (f' i) = putP (K (nm j)) x f i) ∧ ∀ i, U (f' i)) ∧ Below w.heap.size w w' := c10 (nm j) g f x w hf hx
  rw [PK.nm j hj] at h
  simp only [hj, if_true] at h
  exact h
theorem tell7 (j : Nat) (hj : j < 7) (g : Nat → Int) (f : Nat → Nat) (w : World) : Calls Tryz.prog 7 #[.agg (lkC (putG j g) f).toArray, .string (nm j)] w fun e w' => e = .returned (.tuple #[.float .f64 (f (cellK j)), .int .i64 0]) ∧ Below w.heap.size w w' := by
  have h := c7 (nm j) (putG j g) f w
  rw [PK.nm j hj, tell_put j hj] at h
  exact h
theorem putP_at (j x : Nat) (hj : j < 7) (f : Nat → Nat) : putP j x f (cellK j) = sP j (pl x) := by
  unfold putP
  rw [if_pos hj, if_pos rfl, setV_sP]
theorem putP_again (j x v : Nat) (hj : j < 7) (f f1 : Nat → Nat) (h : ∀ i, pl (f1 i) = putP j x f i) (hv : v = f1 (cellK j)) (i : Nat) : putP j v f1 i = pl (f1 i) := by
  have e : pl v = sP j (pl x) := by rw [hv, h, putP_at j x hj]
  unfold putP
  rw [if_pos hj]
  split
  · rename_i hi
    rw [setV_sP, e, sP_again, hi, h, putP_at j x hj]
  · rfl
set_option maxRecDepth 100000 in
set_option maxHeartbeats 4000000 in
theorem walkSets (W : World) (hA : ∀ w', Below W.heap.size W w' → Calls Tryz.prog 6 #[] w' fun e w'' => e = .returned (.bool true) ∧ Below w'.heap.size w' w'') (x : Nat) (hx : U x) (z : Int) (h1 : -9223372036854775808 ≤ z) (h2 : z ≤ 9223372036854775807) :
    Calls Tryz.prog 4 #[.float .f64 x, .int .i64 z] W fun e w' => e = .returned (.bool true) ∧ Below W.heap.size W w' := by
  have HA := Lib.hid hA
  have HX := Lib.hid hx
  clear hA hx
  go_enter Tryz.func4, Tryz.ntmps4
  go_upto_region 2 with (go_at_call 6; refine (HA.out _ (Below.refl _ _)).mono ?_; rintro e w2 ⟨rfl, hb⟩; have B2 := Lib.hid hb; clear hb HA)
  go_upto_region 3 with fail
  refine wpG (fun wx => (∀ j, j < 7 → wx.cell? ⟨w2.heap.size, j, none⟩ = some (.string (nm j))) ∧ Below W.heap.size W wx) ?_ ?_
  · refine ⟨fun j hj => ?_, B2.out.alloc B2.out.size _⟩
    have e := World.cell?_alloc_new w2 NMS 9 j
    exact e.trans (nms_get j hj)
  intro w3 h3
  replace B2 := Lib.hid h3
  clear h3
  generalize w2.heap.size = nb at *
  clear w2
  go_upto_if 18 with fail
  go_cut [0, 1] (fun u0 u wx => u0 = .float .f64 x ∧ ∃ z' : Int, u = .int .i64 z' ∧ Hid (0 ≤ z' ∧ z' ≤ 9223372036854775807) ∧ wx = w3)
  case first =>
    by_cases hz : z < 0
    · go_wp2_with fail
      go_meet
      refine ⟨rfl, _, rfl, Lib.hid ?_, rfl⟩
      omega
    · have hz2 : ¬ z < 0 := hz
      go_wp2_with fail
      go_meet
      exact ⟨rfl, _, rfl, Lib.hid (by omega), rfl⟩
  case rest =>
    obtain ⟨rfl, z', rfl, HZ, rfl⟩ := hcut
    clear h1 h2
    obtain ⟨j, hj⟩ : ∃ j : Nat, z'.tmod 7 = (j : Int) := ⟨(z'.tmod 7).toNat, by have := Int.tmod_nonneg 7 HZ.out.1; omega⟩
    have hj7 : j < 7 := by have := Int.tmod_lt_of_pos z' (show (0 : Int) < 7 from by decide); omega
    have kc := B2.out.1 j hj7
    have hj2 : (j : Int) < 7 := by omega
    have HK := Lib.hid (PK.nm j hj7)
    have HJ := Lib.hid hj7
    clear hj7
    go_upto_region 6 with fail
    have H10 := Lib.hid (fun w => put10 j HJ.out gPl fPl U_fPl x HX.out w)
    replace B2 := Lib.hid B2.out.2
    have SZ := Lib.hid size31
    clear kc hj hj2 HK HZ
    go_upto_region 7 with (first
      | (go_at_call 13; refine (c13 _).mono ?_; rintro e w4 ⟨rfl, hb⟩; replace B2 := Lib.hid (B2.out.trans (hb.mono B2.out.size)); clear hb)
      | (go_at_call 10; refine (H10.out _).mono ?_; rintro e w6 ⟨⟨f1, rfl, hp1, hu1⟩, hb⟩; replace B2 := Lib.hid (B2.out.trans (hb.mono B2.out.size)); clear hb H10; have P1 := Lib.hid (And.intro hp1 hu1); clear hp1 hu1; have L1 := Lib.hid (lay_lit (putG j gPl) f1 w6))
      | (refine wpList_store_mid rfl 31 (.tmp 8) (.tmp 34) rfl w6.heap.size 0 (lkC (putG j gPl) f1).toArray rfl rfl L1.out SZ.out (lk_one _ _) ?_; refine wpLG (fun wx => RI w6.heap.size (lkC (putG j gPl) f1) W wx) (lay_b B2.out (putG j gPl) f1) ?_; intro w7 hI; have I := Lib.hid hI; clear hI))
    clear L1 B2
    generalize w6.heap.size = b6 at *
    clear w6
    obtain ⟨v, hv⟩ : ∃ v, v = f1 (cellK j) := ⟨_, rfl⟩
    have HV := Lib.hid hv
    have H7 := Lib.hid (fun w => tell7 j HJ.out gPl f1 w)
    rw [← hv] at H7
    have H10 := Lib.hid (fun w => put10 j HJ.out (putG j gPl) f1 P1.out.2 v (by rw [hv]; exact P1.out.2 _) w)
    rw [putG_again j HJ.out] at H10
    have PA := Lib.hid (fun i => putP_again j x v HJ.out fPl f1 P1.out.1 hv i)
    have PV : Hid (pl v = sP j (pl x) ∧ U v) := Lib.hid ⟨by rw [hv, P1.out.1, putP_at j x HJ.out], by rw [hv]; exact P1.out.2 _⟩
    clear hv
    generalize hG : putG j gPl = G at *
    clear hG
    go_upto_region 8 with (first
      | (go_at_call 7; refine (H7.out _).mono ?_; rintro e w8 ⟨rfl, hb⟩; replace I := Lib.hid (I.out.below I.out.b.size hb); clear hb H7)
      | (refine wpList_load_mid rfl 31 (.tmp 8) rfl b6 0 rfl (lkC G f1) _ I.out.r Tryz.underlying31 rfl SZ.out ?_))
    go_upto_region 9 with (first
      | (go_at_call 10; refine (H10.out _).mono ?_; rintro e w9 ⟨⟨f2, rfl, hp2, hu2⟩, hb⟩; replace I := Lib.hid (I.out.below I.out.b.size hb); clear hb H10; have P2 := Lib.hid (And.intro hp2 hu2); clear hp2 hu2; have L1 := Lib.hid (lay_lit G f2 w9))
      | (refine wpList_load_mid rfl 31 (.tmp 8) rfl b6 0 rfl (lkC G f1) _ I.out.r Tryz.underlying31 rfl SZ.out ?_)
      | (refine wpList_store_mid rfl 31 (.tmp 12) (.tmp 47) rfl w9.heap.size 0 (lkC G f2).toArray rfl rfl L1.out SZ.out (lk_one _ _) ?_; refine wpLG (fun wx => RI b6 (lkC G f1) W wx ∧ RI w9.heap.size (lkC G f2) W wx) (lay_ri I.out G f2) ?_; intro w10 hI; replace I := Lib.hid hI.1; have J := Lib.hid hI.2; clear hI))
    clear L1
    generalize w9.heap.size = b9 at *
    clear w9
    have H12 : Hid (∀ w, Calls Tryz.prog 12 #[.agg (lkC G f1).toArray, .agg (lkC G f2).toArray] w fun e w' => e = .returned (.bool true) ∧ Below w.heap.size w w') := Lib.hid fun w => c12 G f1 f2 w fun i => ⟨P1.out.2 i, P2.out.2 i, by rw [P2.out.1 i, PA.out i]⟩
    go_upto_region 10 with (first
      | (go_at_call 12; refine (H12.out _).mono ?_; rintro e w11 ⟨rfl, hb⟩; replace I := Lib.hid (I.out.below I.out.b.size hb); clear hb H12)
      | (refine wpList_load_mid rfl 31 (.tmp 8) rfl b6 0 rfl (lkC G f1) _ I.out.r Tryz.underlying31 rfl SZ.out ?_)
      | (refine wpList_load_mid rfl 31 (.tmp 12) rfl b9 0 rfl (lkC G f2) _ J.out.r Tryz.underlying31 rfl SZ.out ?_))
    replace I := Lib.hid I.out.b
    clear J P1 P2 PA SZ HV
    obtain ⟨OX, ov⟩ := oc x v j HX.out PV.out.2 PV.out.1
    clear PV HX HJ
    cases OX
    all_goals
      go_wp2_with fail
      go_ret
      exact ⟨rfl, I.out⟩
theorem iwf {z : Int} (h : (Lit.int .i64 z).wf = true) : -9223372036854775808 ≤ z ∧ z ≤ 9223372036854775807 := by
  simp [Lit.wf] at h
  exact h
theorem walkSets2 (W : World) (hL : laidMetH Tryz.prog Rows.styleSetsRow.laid W) (x : Nat) (hx : (Lit.float .f64 x).wf = true) (z : Int) (hz : (Lit.int .i64 z).wf = true) :
    Calls Tryz.prog 4 #[.float .f64 x, .int .i64 z] W fun e w' => e = .returned (.bool true) ∧ Below W.heap.size W w' :=
  walkSets W (awake_all (handle_of_laid rfl hL)) x (uwf hx) z (iwf hz).1 (iwf hz).2
end Go.Proofs.YtphoggimeaejnaaGreatDoor
