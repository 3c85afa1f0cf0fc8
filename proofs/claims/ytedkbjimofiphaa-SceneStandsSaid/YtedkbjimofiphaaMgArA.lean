/- Exact sums by places. scene.Area. scene.Bounds: its drawn regions, printed by gen_bd.py. -/
import Derived.Test.YtedkbjimofiphaaMgCnA
import Derived.Test.YtedkbjimofiphaaSumK
import Derived.Test.YtedkbjimofiphaaMgGeoA
namespace Go.Proofs.Ytedkbjimofiphaa
open Go.RowKit Fl
theorem addS_place {x y : Nat} (hx : U x) (hy : U y) (h : pl x = pl y) (s : AS) : addS s x = addS s y := by
  rcases (pl_eq_iff hx hy).1 h with rfl | ⟨h1, h2⟩
  · rfl
  · have key : ∀ x, isN x = true → addS s x = ⟨s.z, true, s.pos, s.neg, true⟩ := fun x hx => by
      have f1 : fin x = false := by unfold isN at hx; unfold fin; have := of_decide_eq_true hx; exact decide_eq_false (by omega)
      have f2 : ¬ x = 9218868437227405312 := by rintro rfl; exact absurd hx (by decide)
      have f3 : ¬ x = 18442240474082181120 := by rintro rfl; exact absurd hx (by decide)
      have f4 : x ≠ 9223372036854775808 := by rintro rfl; exact absurd hx (by decide)
      unfold addS; rw [f1, hx, decide_eq_false f2, decide_eq_false f3, decide_eq_true f4]; simp
    rw [key x h1, key y h2]
/-- a word of a place -/
def pw (p : Int) : Nat := if p = 9223372036854775807 then 9221120237041090561 else if p < 0 then 9223372036854775808 + (-p - 1).toNat else p.toNat
theorem pl_pw {x : Nat} (hx : U x) : U (pw (pl x)) ∧ pl (pw (pl x)) = pl x := by
  have hr := pl_range x
  by_cases hn : pl x = 9223372036854775807
  · rw [hn]; exact ⟨by unfold U; decide, by decide⟩
  · have hN : isN x = false := by
      cases e : isN x with
      | false => rfl
      | true => exact absurd (by unfold pl; rw [e]; rfl) hn
    have : pw (pl x) = x := by
      unfold pw
      rw [if_neg hn]
      unfold pl
      rw [hN]
      have hx2 := hx.lt
      cases hs : sg x with
      | true =>
        have h1 := rg_of_sg hx hs
        have h2 := (sg_iff x).1 hs
        simp only [Bool.false_eq_true, if_false, if_true]
        rw [if_pos (by omega), h1]; omega
      | false =>
        simp only [Bool.false_eq_true, if_false]
        have h2 : ¬ 9223372036854775808 ≤ x := fun h => by rw [(sg_iff x).2 h] at hs; cases hs
        rw [if_neg (by omega)]
        unfold rg
        omega
    rw [this]
    exact ⟨hx, rfl⟩
def accP (ps : List Int) : AS := accS (ps.map pw)
theorem fold_places (l : List Nat) (h : ∀ x ∈ l, U x) : ∀ s : AS, l.foldl addS s = ((l.map pl).map pw).foldl addS s := by
  induction l with
  | nil => intro s; rfl
  | cons x l ih =>
    intro s
    have hx := h x (List.mem_cons_self ..)
    rw [List.map_cons, List.map_cons, List.foldl_cons, List.foldl_cons, addS_place hx (pl_pw hx).1 (pl_pw hx).2.symm]
    exact ih (fun y hy => h y (List.mem_cons_of_mem _ hy)) _
theorem accS_places {l : List Nat} (h : ∀ x ∈ l, U x) : accS l = accP (l.map pl) := fold_places l h AS.zero
/-- an amount -/
def abP (p : Int) : Int := if p = 9223372036854775807 then p else if p < 0 then -p - 1 else p
theorem pl_rgA {x : Nat} (hx : U x) : U (rg x) ∧ pl (rg x) = abP (pl x) := by
  have h1 : rg x < 9223372036854775808 := Nat.mod_lt _ (by decide)
  have e : rg (rg x) = rg x := Nat.mod_eq_of_lt h1
  have s0 : sg (rg x) = false := decide_eq_false (by omega)
  have n0 : isN (rg x) = isN x := by unfold isN; rw [e]
  refine ⟨by unfold U; omega, ?_⟩
  unfold pl abP
  rw [n0, s0, e]
  cases hn : isN x with
  | true => rfl
  | false =>
    simp only [Bool.false_eq_true, if_false]
    have hI : rg x ≤ 9218868437227405312 := by
      unfold isN at hn; have := of_decide_eq_false hn; unfold INF at this; omega
    cases hs : sg x with
    | true => simp only [if_true]; rw [if_neg (by omega), if_pos (by omega)]; omega
    | false => simp only [Bool.false_eq_true, if_false]; rw [if_neg (by omega), if_neg (by omega)]
/-- what an item covers, by places -/
def ar2 (t : ITM) (j : Nat) : List Int := [opP .mul (cxP t j) (cyP t ((j + 1) % 4)), ngP (opP .mul (cxP t ((j + 1) % 4)) (cyP t j))]
def areaL (t : ITM) (i : Nat) : List Int := (List.range i).flatMap (ar2 t)
def areaP (t : ITM) : Int := opP .mul 4602678819172646912 (abP (pV (accP (areaL t 4))))
end Go.Proofs.Ytedkbjimofiphaa

namespace Go.Proofs.Ytedkbjimofiphaa
open Go.RowKit Fl
noncomputable def tr20 (n : Nat) : Code := (Try.f20.body.bind (findRegion n)).getD .skip
theorem info31 : (Try.prog.info? 31).map (fun i => (i.zero, i.size, i.bytes)) = some (some (.float .f64 0), 1, 8) := by kernel_rfl
theorem sz31 : (Try.prog.info? 31).map (·.size) = some 1 ∧ ((Try.prog.info? 31).bind (·.zero)).isSome = true := by
  obtain ⟨i, h1, h2, h3, -⟩ := info_parts info31
  rw [h1]; exact ⟨congrArg some h3, by rw [Option.bind_some, h2]; rfl⟩
theorem getDF {xs : List Nat} {j : Nat} (h : j < xs.length) : (xs.map (Value.float .f64))[j]? = some (.float .f64 (xs.getD j 0)) := by
  rw [List.getElem?_map, List.getElem?_eq_getElem h, List.getD_eq_getElem?_getD, List.getElem?_eq_getElem h]; rfl
set_option maxRecDepth 100000 in
set_option maxHeartbeats 2000000 in
theorem areg7 {Q : Exit → Act → World → Prop} (w : World) (g3 g4 i k base m cv : Nat) (pv : Option Addr) (xs ys : List Nat) (l : List Value) (X Y X2 Y2 : Int) (u0 u1 u2 u8 u9 u10 u11 u12 u13 u14 u15 u16 u17 u18 u19 u20 u21 u22 u23 u24 u25 u26 u27 u28 u29 u30 u31 u32 u33 u34 u35 u36 u37 u38 u39 u40 u41 : Value) (hst : ∀ g, u35 = .slice (some ⟨g, 0, none⟩) 2 2 → g < w.heap.size)
    (r3 : w.rangeAt g3 0 (xs.map (Value.float .f64))) (r4 : w.rangeAt g4 0 (ys.map (Value.float .f64))) (l3 : xs.length = 4) (l4 : ys.length = 4) (lg3 : g3 < w.heap.size) (lg4 : g4 < w.heap.size) (hi : i < 4) (hk : k < 4)
    (xi : RV (xs.getD i 0) X) (yk : RV (ys.getD k 0) Y) (xk : RV (xs.getD k 0) X2) (yi : RV (ys.getD i 0) Y2) (hown : w.ownsRow base 31 1 (.slice pv m cv) m l) (hbase : base ≤ w.heap.size) (hm : m ≤ 8)
    (hfin : ∀ (v19 v20 v21 v22 v23 v24 v25 v26 v27 v28 v29 v30 v31 v32 v33 v34 v36 : Value) (pw : Option Addr) (cw : Nat) (w1 w' : World) (r s g : Nat), Below w.heap.size w w1 → RV r (opP .mul X Y) → RV s (ngP (opP .mul X2 Y2)) → w'.ownsRow base 31 1 (.slice pw (m + 2) cw) (m + 2) (l ++ [.float .f64 r, .float .f64 s]) → w1.grownBy w' (.slice pv m cv : Value).ownBlock → g < w'.heap.size → Q .normal ⟨List.toArray (u0 :: u1 :: u2 :: .pointer (some ⟨g3, 0, none⟩) :: .pointer (some ⟨g4, 0, none⟩) :: .slice pw (m + 2) cw :: .int .i64 (i : Int) :: .int .i64 (k : Int) :: u8 :: u9 :: u10 :: u11 :: u12 :: u13 :: u14 :: u15 :: u16 :: u17 :: u18 :: v19 :: v20 :: v21 :: v22 :: v23 :: v24 :: v25 :: v26 :: v27 :: v28 :: v29 :: v30 :: v31 :: v32 :: v33 :: v34 :: .slice (some ⟨g, 0, none⟩) 2 2 :: v36 :: u37 :: u38 :: u39 :: u40 :: u41 :: []), []⟩ w') : Code.wp Try.prog (tr20 7) Q ⟨List.toArray (u0 :: u1 :: u2 :: .pointer (some ⟨g3, 0, none⟩) :: .pointer (some ⟨g4, 0, none⟩) :: .slice pv m cv :: .int .i64 (i : Int) :: .int .i64 (k : Int) :: u8 :: u9 :: u10 :: u11 :: u12 :: u13 :: u14 :: u15 :: u16 :: u17 :: u18 :: u19 :: u20 :: u21 :: u22 :: u23 :: u24 :: u25 :: u26 :: u27 :: u28 :: u29 :: u30 :: u31 :: u32 :: u33 :: u34 :: u35 :: u36 :: u37 :: u38 :: u39 :: u40 :: u41 :: []), []⟩ w := by
  have HF := Lib.hid hfin
  obtain ⟨R, hR⟩ : ∃ R : List Value → Prop, R = fun cs => ∃ r s, RV r (opP .mul X Y) ∧ RV s (ngP (opP .mul X2 Y2)) ∧ cs = [.float .f64 r, .float .f64 s] := ⟨_, rfl⟩
  have HR := Lib.hid hR
  have C3 := Lib.hid (show ∀ j, j < 4 → ∀ w', NB R w w' → w'.cell? ⟨g3, 0 + j, none⟩ = some (.float .f64 (xs.getD j 0)) from fun j hj w' hb => range_below r3 hb.1 lg3 j _ (getDF (by omega)))
  have C4 := Lib.hid (show ∀ j, j < 4 → ∀ w', NB R w w' → w'.cell? ⟨g4, 0 + j, none⟩ = some (.float .f64 (ys.getD j 0)) from fun j hj w' hb => range_below r4 hb.1 lg4 j _ (getDF (by omega)))
  have HV := Lib.hid (And.intro xi (And.intro yk (And.intro xk yi)))
  have HB := Lib.hid (And.intro hi hk)
  have bi : (i : Int) < 4 := by omega
  have bk : (k : Int) < 4 := by omega
  have HO := Lib.hid (show ∀ w', NB R w w' → w'.ownsRow base 31 1 (.slice pv m cv) m l ∧ base ≤ w'.heap.size from fun w' hb => ⟨owned_at hown fun k _ hl => hb.1.block k hl, Nat.le_trans hbase hb.1.size⟩)
  have HS := Lib.hid hst
  obtain ⟨i3, hi3, hz0, hz1, hz2⟩ := info_parts info31
  have H3 := Lib.hid (And.intro hi3 (And.intro hz0 (And.intro hz1 hz2)))
  clear hfin r3 r4 l3 l4 lg3 lg4 hi hk xi yk xk yi hown hbase hst hR hi3 hz0 hz1 hz2
  have E3 := C3.out i HB.out.1
  have E4 := C4.out k HB.out.2
  have F3 := C3.out k HB.out.2
  have F4 := C4.out i HB.out.1
  clear C3 C4
  generalize xs.getD i 0 = xa at *
  generalize ys.getD k 0 = ya at *
  generalize xs.getD k 0 = xb at *
  generalize ys.getD i 0 = yb at *
  have E3 := (Lib.hid E3).out
  conv => arg 2; whnf
  refine RB.RT.wp_region_slot 17 (fun w' => NB R w w') 35 2 (fun _ _ _ => False) (by kernel_rfl) (by kernel_rfl) (NB.start R w) (fun g hg => HS.out g hg) ?_
  simp only [List.take_succ_cons, List.take_zero, List.drop_succ_cons, List.drop_zero]
  refine RB.RT.rel_move (v := .slice pv m cv) rfl rfl (by decide) ?_
  simp only [Act.put, List.setIfInBounds_toArray, List.set_cons_succ, List.set_cons_zero]
  refine RB.RT.rel_move (v := .int .i64 (i : Int)) rfl rfl (by decide) ?_
  simp only [Act.put, List.setIfInBounds_toArray, List.set_cons_succ, List.set_cons_zero]
  refine RB.RT.rel_val (v := .pointer (some ⟨g3, i, none⟩)) rfl (by decide) (fun w' hw => by go_simp) ?_
  simp only [Act.put, List.setIfInBounds_toArray, List.set_cons_succ, List.set_cons_zero]
  refine RB.RT.rel_loadF g3 i xa rfl rfl (by decide) (fun w' hw => E3 w' hw) ?_
  simp only [Act.put, List.setIfInBounds_toArray, List.set_cons_succ, List.set_cons_zero]
  refine RB.RT.rel_move (v := .int .i64 (k : Int)) rfl rfl (by decide) ?_
  simp only [Act.put, List.setIfInBounds_toArray, List.set_cons_succ, List.set_cons_zero]
  refine RB.RT.rel_val (v := .pointer (some ⟨g4, k, none⟩)) rfl (by decide) (fun w' hw => by go_simp) ?_
  simp only [Act.put, List.setIfInBounds_toArray, List.set_cons_succ, List.set_cons_zero]
  refine RB.RT.rel_loadF g4 k ya rfl rfl (by decide) (fun w' hw => E4 w' hw) ?_
  simp only [Act.put, List.setIfInBounds_toArray, List.set_cons_succ, List.set_cons_zero]
  refine RB.RT.rel_fop (op := .mul) rfl rfl rfl HV.out.1 HV.out.2.1 rfl (by decide) (fun w' k h => h.drew k) (fun r hr => ?_)
  simp only [Act.put, List.setIfInBounds_toArray, List.set_cons_succ, List.set_cons_zero]
  refine RB.RT.rel_move (v := .int .i64 (k : Int)) rfl rfl (by decide) ?_
  simp only [Act.put, List.setIfInBounds_toArray, List.set_cons_succ, List.set_cons_zero]
  refine RB.RT.rel_val (v := .pointer (some ⟨g3, k, none⟩)) rfl (by decide) (fun w' hw => by go_simp) ?_
  simp only [Act.put, List.setIfInBounds_toArray, List.set_cons_succ, List.set_cons_zero]
  refine RB.RT.rel_loadF g3 k xb rfl rfl (by decide) (fun w' hw => F3 w' hw) ?_
  simp only [Act.put, List.setIfInBounds_toArray, List.set_cons_succ, List.set_cons_zero]
  refine RB.RT.rel_move (v := .int .i64 (i : Int)) rfl rfl (by decide) ?_
  simp only [Act.put, List.setIfInBounds_toArray, List.set_cons_succ, List.set_cons_zero]
  refine RB.RT.rel_val (v := .pointer (some ⟨g4, i, none⟩)) rfl (by decide) (fun w' hw => by go_simp) ?_
  simp only [Act.put, List.setIfInBounds_toArray, List.set_cons_succ, List.set_cons_zero]
  refine RB.RT.rel_loadF g4 i yb rfl rfl (by decide) (fun w' hw => F4 w' hw) ?_
  simp only [Act.put, List.setIfInBounds_toArray, List.set_cons_succ, List.set_cons_zero]
  refine RB.RT.rel_fop (op := .mul) rfl rfl rfl HV.out.2.2.1 HV.out.2.2.2 rfl (by decide) (fun w' k h => h.drew k) (fun t ht => ?_)
  simp only [Act.put, List.setIfInBounds_toArray, List.set_cons_succ, List.set_cons_zero]
  refine RB.RT.rel_val (v := .float .f64 (ng t)) rfl (by decide) (fun w' hw => rfl) ?_
  simp only [Act.put, List.setIfInBounds_toArray, List.set_cons_succ, List.set_cons_zero]
  refine RB.RT.rel_slice2 w.heap.size (.float .f64 r) (.float .f64 (ng t)) rfl rfl Try.underlying105 sz31.1 sz31.2 rfl rfl rfl (fun w' h => ⟨h.alloc [.float .f64 r, .float .f64 (ng t)] 31 (by rw [HR.out]; exact ⟨r, ng t, hr, ⟨U_ng ht.1, by rw [pl_ng ht.1, ht.2]⟩, rfl⟩), h.1.size⟩) (fun g hg => ?_)
  simp only [Act.put, List.setIfInBounds_toArray, List.set_cons_succ, List.set_cons_zero]
  refine RB.RT.rel_nil ?_
  intro w' hw hic
  obtain ⟨cs, hcs, hrg⟩ := hw.2 g hg (hic g rfl)
  rw [HR.out] at hcs
  obtain ⟨r2, s2, hr2, hs2, rfl⟩ := hcs
  have HG := Lib.hid (hic g rfl)
  have HW := Lib.hid hw.1
  have HR2 := Lib.hid (And.intro hr2 hs2)
  have NC := Lib.hid (show ∀ j u, [Value.float .f64 r2, .float .f64 s2][j]? = some u → w'.cell? ((⟨g, 0, none⟩ : Addr).add j) = some u from fun j u hj => by rw [Addr.add_lit]; exact hrg j u hj)
  have OA := Lib.hid (HO.out w' hw)
  clear hrg hr2 hs2 hr ht hic hw E3 E4 F3 F4
  go_wp2_with (at_builtin; refine wpList_append_strong rfl _ _ 105 rfl base 31 i3 (.float .f64 0) 1 8 Try.underlying105 H3.out.1 H3.out.2.1 H3.out.2.2.1 H3.out.2.2.2 rfl (by decide) _ _ _ rfl OA.out.1 ⟨g, 0, none⟩ 2 2 [Value.float .f64 r2, .float .f64 s2] rfl rfl NC.out ?c2 ?c3 ?c4 ?c5 (by decide) ?_)
  case c2 =>
    intro u hu
    rcases List.mem_cons.1 hu with rfl | hu
    · rfl
    · rw [List.mem_singleton.1 hu]; rfl
  case c3 => unfold maxLen; omega
  case c4 => omega
  case c5 => exact OA.out.2
  intro v3 w3 hown3 hgrow hblk
  obtain ⟨pw, cw, rfl, -⟩ := owned_slice hown3
  have H4 := Lib.hid (And.intro hown3 hgrow)
  have hlt := Nat.lt_of_lt_of_le HG.out hgrow.size
  have HLT := Lib.hid hlt
  clear hown3 hgrow hblk hlt
  go_wp2
  exact HF.out _ _ _ _ _ _ _ _ _ _ _ _ _ _ _ _ _ pw cw w' w3 r2 s2 g HW.out HR2.out.1 HR2.out.2 H4.out.1 H4.out.2 HLT.out
end Go.Proofs.Ytedkbjimofiphaa

namespace Go.Proofs.Ytedkbjimofiphaa
open Go.RowKit Fl
noncomputable def tr39 (n : Nat) : Code := (Try.f39.body.bind (findRegion n)).getD .skip
set_option maxRecDepth 100000 in
set_option maxHeartbeats 2000000 in
theorem breg12 {Q : Exit → Act → World → Prop} (w : World) (g i x4 x6 : Nat) (xs : List Nat) (A4 A6 X : Int) (u0 u1 u2 u3 u5 u7 u8 u9 u11 u13 u14 u15 u16 u17 u18 u19 u20 u21 u22 u23 u24 u25 u26 u27 u28 u29 u30 u31 u32 u33 u34 u35 u36 u37 u38 u39 u40 u41 u42 u43 u44 u45 u46 u47 u48 u49 u50 u51 u52 u53 u54 u55 u56 u57 u58 u59 u60 u61 u62 u63 u64 u65 : Value) (r0 : w.rangeAt g 0 (xs.map (Value.float .f64))) (l0 : xs.length = 4) (lg : g < w.heap.size) (hi : i < 4) (h4 : RV x4 A4) (h6 : RV x6 A6) (hx : RV (xs.getD i 0) X)
    (hfin : ∀ (v35 v36 v37 v38 v39 v40 v41 v42 v43 v44 : Value) (a b : Nat) (w' : World), Below w.heap.size w w' → RV a (minP A4 X) → RV b (maxP A6 X) → Q .normal ⟨List.toArray (u0 :: u1 :: u2 :: u3 :: .float .f64 a :: u5 :: .float .f64 b :: u7 :: u8 :: u9 :: .pointer (some ⟨g, 0, none⟩) :: u11 :: .int .i64 (i : Int) :: u13 :: u14 :: u15 :: u16 :: u17 :: u18 :: u19 :: u20 :: u21 :: u22 :: u23 :: u24 :: u25 :: u26 :: u27 :: u28 :: u29 :: u30 :: u31 :: u32 :: u33 :: u34 :: v35 :: v36 :: v37 :: v38 :: v39 :: v40 :: v41 :: v42 :: v43 :: v44 :: u45 :: u46 :: u47 :: u48 :: u49 :: u50 :: u51 :: u52 :: u53 :: u54 :: u55 :: u56 :: u57 :: u58 :: u59 :: u60 :: u61 :: u62 :: u63 :: u64 :: u65 :: []), []⟩ w') : Code.wp Try.prog (tr39 12) Q ⟨List.toArray (u0 :: u1 :: u2 :: u3 :: .float .f64 x4 :: u5 :: .float .f64 x6 :: u7 :: u8 :: u9 :: .pointer (some ⟨g, 0, none⟩) :: u11 :: .int .i64 (i : Int) :: u13 :: u14 :: u15 :: u16 :: u17 :: u18 :: u19 :: u20 :: u21 :: u22 :: u23 :: u24 :: u25 :: u26 :: u27 :: u28 :: u29 :: u30 :: u31 :: u32 :: u33 :: u34 :: u35 :: u36 :: u37 :: u38 :: u39 :: u40 :: u41 :: u42 :: u43 :: u44 :: u45 :: u46 :: u47 :: u48 :: u49 :: u50 :: u51 :: u52 :: u53 :: u54 :: u55 :: u56 :: u57 :: u58 :: u59 :: u60 :: u61 :: u62 :: u63 :: u64 :: u65 :: []), []⟩ w := by
  have HF := Lib.hid hfin
  have E3 := Lib.hid (show ∀ w', Below w.heap.size w w' → w'.cell? ⟨g, 0 + i, none⟩ = some (.float .f64 (xs.getD i 0)) from fun w' hb => range_below r0 hb lg i _ (getDF (by omega)))
  have bi : (i : Int) < 4 := by omega
  clear hfin r0 l0 lg hi
  generalize xs.getD i 0 = xa at *
  conv => arg 2; whnf
  refine wp_region_rel 10 (fun w' => Below w.heap.size w w') GEO (by kernel_rfl) (by kernel_rfl) ((Below.refl _ _).drew) ?_
  simp only [List.take_succ_cons, List.take_zero, List.drop_succ_cons, List.drop_zero]
  refine rel_val (v := .float .f64 x4) rfl (fun w' hw => rfl) ?_
  simp only [Act.put, List.setIfInBounds_toArray, List.set_cons_succ, List.set_cons_zero]
  refine rel_val (v := .int .i64 (i : Int)) rfl (fun w' hw => rfl) ?_
  simp only [Act.put, List.setIfInBounds_toArray, List.set_cons_succ, List.set_cons_zero]
  refine rel_val (v := .pointer (some ⟨g, i, none⟩)) rfl (fun w' hw => by go_simp) ?_
  simp only [Act.put, List.setIfInBounds_toArray, List.set_cons_succ, List.set_cons_zero]
  refine rel_loadF g i xa rfl rfl (fun w' hw => E3.out w' hw) ?_
  simp only [Act.put, List.setIfInBounds_toArray, List.set_cons_succ, List.set_cons_zero]
  refine rel_call (f := 61) (args := #[.float .f64 x4, .float .f64 xa]) rfl (fun w' hw => by go_simp) (fun w' hw => g83 h4 hx hw) (fun v hv => ?_)
  obtain ⟨r, rfl, hr⟩ := G83 hv h4 hx
  simp only [Act.put, List.setIfInBounds_toArray, List.set_cons_succ, List.set_cons_zero]
  refine rel_val (v := .float .f64 x6) rfl (fun w' hw => rfl) ?_
  simp only [Act.put, List.setIfInBounds_toArray, List.set_cons_succ, List.set_cons_zero]
  refine rel_val (v := .int .i64 (i : Int)) rfl (fun w' hw => rfl) ?_
  simp only [Act.put, List.setIfInBounds_toArray, List.set_cons_succ, List.set_cons_zero]
  refine rel_val (v := .pointer (some ⟨g, i, none⟩)) rfl (fun w' hw => by go_simp) ?_
  simp only [Act.put, List.setIfInBounds_toArray, List.set_cons_succ, List.set_cons_zero]
  refine rel_loadF g i xa rfl rfl (fun w' hw => E3.out w' hw) ?_
  simp only [Act.put, List.setIfInBounds_toArray, List.set_cons_succ, List.set_cons_zero]
  refine rel_call (f := 62) (args := #[.float .f64 x6, .float .f64 xa]) rfl (fun w' hw => by go_simp) (fun w' hw => g84 h6 hx hw) (fun v hv => ?_)
  obtain ⟨s, rfl, hs⟩ := G84 hv h6 hx
  simp only [Act.put, List.setIfInBounds_toArray, List.set_cons_succ, List.set_cons_zero]
  refine rel_nil ?_
  intro w' hw
  have HH := Lib.hid (And.intro hw (And.intro hr hs))
  clear hw hr hs h4 h6 hx
  go_wp2
  exact HF.out _ _ _ _ _ _ _ _ _ _ r s w' HH.out.1 HH.out.2.1 HH.out.2.2
set_option maxRecDepth 100000 in
set_option maxHeartbeats 2000000 in
theorem breg13 {Q : Exit → Act → World → Prop} (w : World) (g i x4 x6 : Nat) (xs : List Nat) (A4 A6 X : Int) (u0 u1 u2 u3 u4 u6 u8 u9 u10 u13 u14 u15 u16 u17 u18 u19 u20 u21 u22 u23 u24 u25 u26 u27 u28 u29 u30 u31 u32 u33 u34 u35 u36 u37 u38 u39 u40 u41 u42 u43 u44 u45 u46 u47 u48 u49 u50 u51 u52 u53 u54 u55 u56 u57 u58 u59 u60 u61 u62 u63 u64 u65 : Value) (r0 : w.rangeAt g 0 (xs.map (Value.float .f64))) (l0 : xs.length = 4) (lg : g < w.heap.size) (hi : i < 4) (h4 : RV x4 A4) (h6 : RV x6 A6) (hx : RV (xs.getD i 0) X)
    (hfin : ∀ (v45 v46 v47 v48 v49 v50 v51 v52 v53 v54 : Value) (a b : Nat) (w' : World), Below w.heap.size w w' → RV a (minP A4 X) → RV b (maxP A6 X) → Q .normal ⟨List.toArray (u0 :: u1 :: u2 :: u3 :: u4 :: .float .f64 a :: u6 :: .float .f64 b :: u8 :: u9 :: u10 :: .pointer (some ⟨g, 0, none⟩) :: .int .i64 (i : Int) :: u13 :: u14 :: u15 :: u16 :: u17 :: u18 :: u19 :: u20 :: u21 :: u22 :: u23 :: u24 :: u25 :: u26 :: u27 :: u28 :: u29 :: u30 :: u31 :: u32 :: u33 :: u34 :: u35 :: u36 :: u37 :: u38 :: u39 :: u40 :: u41 :: u42 :: u43 :: u44 :: v45 :: v46 :: v47 :: v48 :: v49 :: v50 :: v51 :: v52 :: v53 :: v54 :: u55 :: u56 :: u57 :: u58 :: u59 :: u60 :: u61 :: u62 :: u63 :: u64 :: u65 :: []), []⟩ w') : Code.wp Try.prog (tr39 13) Q ⟨List.toArray (u0 :: u1 :: u2 :: u3 :: u4 :: .float .f64 x4 :: u6 :: .float .f64 x6 :: u8 :: u9 :: u10 :: .pointer (some ⟨g, 0, none⟩) :: .int .i64 (i : Int) :: u13 :: u14 :: u15 :: u16 :: u17 :: u18 :: u19 :: u20 :: u21 :: u22 :: u23 :: u24 :: u25 :: u26 :: u27 :: u28 :: u29 :: u30 :: u31 :: u32 :: u33 :: u34 :: u35 :: u36 :: u37 :: u38 :: u39 :: u40 :: u41 :: u42 :: u43 :: u44 :: u45 :: u46 :: u47 :: u48 :: u49 :: u50 :: u51 :: u52 :: u53 :: u54 :: u55 :: u56 :: u57 :: u58 :: u59 :: u60 :: u61 :: u62 :: u63 :: u64 :: u65 :: []), []⟩ w := by
  have HF := Lib.hid hfin
  have E3 := Lib.hid (show ∀ w', Below w.heap.size w w' → w'.cell? ⟨g, 0 + i, none⟩ = some (.float .f64 (xs.getD i 0)) from fun w' hb => range_below r0 hb lg i _ (getDF (by omega)))
  have bi : (i : Int) < 4 := by omega
  clear hfin r0 l0 lg hi
  generalize xs.getD i 0 = xa at *
  conv => arg 2; whnf
  refine wp_region_rel 10 (fun w' => Below w.heap.size w w') GEO (by kernel_rfl) (by kernel_rfl) ((Below.refl _ _).drew) ?_
  simp only [List.take_succ_cons, List.take_zero, List.drop_succ_cons, List.drop_zero]
  refine rel_val (v := .float .f64 x4) rfl (fun w' hw => rfl) ?_
  simp only [Act.put, List.setIfInBounds_toArray, List.set_cons_succ, List.set_cons_zero]
  refine rel_val (v := .int .i64 (i : Int)) rfl (fun w' hw => rfl) ?_
  simp only [Act.put, List.setIfInBounds_toArray, List.set_cons_succ, List.set_cons_zero]
  refine rel_val (v := .pointer (some ⟨g, i, none⟩)) rfl (fun w' hw => by go_simp) ?_
  simp only [Act.put, List.setIfInBounds_toArray, List.set_cons_succ, List.set_cons_zero]
  refine rel_loadF g i xa rfl rfl (fun w' hw => E3.out w' hw) ?_
  simp only [Act.put, List.setIfInBounds_toArray, List.set_cons_succ, List.set_cons_zero]
  refine rel_call (f := 61) (args := #[.float .f64 x4, .float .f64 xa]) rfl (fun w' hw => by go_simp) (fun w' hw => g83 h4 hx hw) (fun v hv => ?_)
  obtain ⟨r, rfl, hr⟩ := G83 hv h4 hx
  simp only [Act.put, List.setIfInBounds_toArray, List.set_cons_succ, List.set_cons_zero]
  refine rel_val (v := .float .f64 x6) rfl (fun w' hw => rfl) ?_
  simp only [Act.put, List.setIfInBounds_toArray, List.set_cons_succ, List.set_cons_zero]
  refine rel_val (v := .int .i64 (i : Int)) rfl (fun w' hw => rfl) ?_
  simp only [Act.put, List.setIfInBounds_toArray, List.set_cons_succ, List.set_cons_zero]
  refine rel_val (v := .pointer (some ⟨g, i, none⟩)) rfl (fun w' hw => by go_simp) ?_
  simp only [Act.put, List.setIfInBounds_toArray, List.set_cons_succ, List.set_cons_zero]
  refine rel_loadF g i xa rfl rfl (fun w' hw => E3.out w' hw) ?_
  simp only [Act.put, List.setIfInBounds_toArray, List.set_cons_succ, List.set_cons_zero]
  refine rel_call (f := 62) (args := #[.float .f64 x6, .float .f64 xa]) rfl (fun w' hw => by go_simp) (fun w' hw => g84 h6 hx hw) (fun v hv => ?_)
  obtain ⟨s, rfl, hs⟩ := G84 hv h6 hx
  simp only [Act.put, List.setIfInBounds_toArray, List.set_cons_succ, List.set_cons_zero]
  refine rel_nil ?_
  intro w' hw
  have HH := Lib.hid (And.intro hw (And.intro hr hs))
  clear hw hr hs h4 h6 hx
  go_wp2
  exact HF.out _ _ _ _ _ _ _ _ _ _ r s w' HH.out.1 HH.out.2.1 HH.out.2.2
end Go.Proofs.Ytedkbjimofiphaa
