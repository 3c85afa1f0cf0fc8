/- The regions of Paint that draw their order. Paint's steps: a box put to its likes; an item written. scene.plain; the law's look and box. -/
import Derived.Test.YtedkbjimofiphaaMgPtA
import Derived.Test.YtedkbjimofiphaaMgSrF
import Derived.Deep.RegionHeld3
namespace Go.Proofs.Ytedkbjimofiphaa
open Go.RowKit Fl
def findRegion (n : Nat) : Code → Option Code
  | .region m x y => if m = n then some (.region m x y) else none
  | .seq a b => match findRegion n a with
    | some c => some c
    | none => findRegion n b
  | .block _ c => findRegion n c
  | .scope c => findRegion n c
  | .loop c => findRegion n c
  | .cond _ a b => match findRegion n a with
    | some c => some c
    | none => findRegion n b
  | _ => none
/-- a region of Paint -/
noncomputable def tr13 (n : Nat) : Code := (Try.f13.body.bind (findRegion n)).getD .skip
set_option maxRecDepth 100000 in
set_option maxHeartbeats 2000000 in
theorem reg12 {Q : Exit → Act → World → Prop} (w : World) (mz ga off ow : Nat) (ms : List Nat) (u0 u1 u2 u3 u4 u5 u6 u7 u8 u9 u11 u13 u14 u15 u16 u17 u18 u19 u20 u21 u22 u23 u24 u25 u26 u27 u28 u29 u30 u31 u32 u33 u34 u35 u36 u37 u38 u39 u40 u41 u42 u43 u44 u45 u46 u47 u48 u49 u50 u51 u52 u53 u54 u55 u56 u57 u58 u59 u60 u61 u62 u63 u64 u65 u66 u67 u68 u69 u70 u71 u72 u73 u74 u75 u76 u77 u78 u79 u80 u81 u82 u83 u84 u85 u86 u87 u88 u89 u90 u91 u92 u93 u94 u95 u96 u97 u98 u99 u100 u101 u102 u103 u104 u105 u106 u107 u108 u109 u110 u111 u112 u113 u114 : Value) (hm : MU ms) (hr : w.rangeAt ga (off + 6) (ms.map (Value.float .f64))) (ho : w.cell? ⟨ga, off + 22, none⟩ = some (.float .f64 ow)) (ht : w.there mz 0 16) (hne : ga ≠ mz)
    (hfin : ∀ (v43 v44 v45 v46 v47 v48 v49 v50 v51 v52 : Value), Q .normal ⟨List.toArray (u0 :: u1 :: u2 :: u3 :: u4 :: u5 :: u6 :: u7 :: u8 :: u9 :: .pointer (some ⟨mz, 0, none⟩) :: .float .f64 ow :: .pointer (some ⟨ga, off, none⟩) :: u13 :: u14 :: u15 :: u16 :: u17 :: u18 :: u19 :: u20 :: u21 :: u22 :: u23 :: u24 :: u25 :: u26 :: u27 :: u28 :: u29 :: u30 :: u31 :: u32 :: u33 :: u34 :: u35 :: u36 :: u37 :: u38 :: u39 :: u40 :: u41 :: u42 :: v43 :: v44 :: v45 :: v46 :: v47 :: v48 :: v49 :: v50 :: v51 :: v52 :: u53 :: u54 :: u55 :: u56 :: u57 :: u58 :: u59 :: u60 :: u61 :: u62 :: u63 :: u64 :: u65 :: u66 :: u67 :: u68 :: u69 :: u70 :: u71 :: u72 :: u73 :: u74 :: u75 :: u76 :: u77 :: u78 :: u79 :: u80 :: u81 :: u82 :: u83 :: u84 :: u85 :: u86 :: u87 :: u88 :: u89 :: u90 :: u91 :: u92 :: u93 :: u94 :: u95 :: u96 :: u97 :: u98 :: u99 :: u100 :: u101 :: u102 :: u103 :: u104 :: u105 :: u106 :: u107 :: u108 :: u109 :: u110 :: u111 :: u112 :: u113 :: u114 :: []), []⟩ (w.drew.setCells mz 0 (ms.map (Value.float .f64)))) : Code.wp Try.prog (tr13 12) Q ⟨List.toArray (u0 :: u1 :: u2 :: u3 :: u4 :: u5 :: u6 :: u7 :: u8 :: u9 :: .pointer (some ⟨mz, 0, none⟩) :: u11 :: .pointer (some ⟨ga, off, none⟩) :: u13 :: u14 :: u15 :: u16 :: u17 :: u18 :: u19 :: u20 :: u21 :: u22 :: u23 :: u24 :: u25 :: u26 :: u27 :: u28 :: u29 :: u30 :: u31 :: u32 :: u33 :: u34 :: u35 :: u36 :: u37 :: u38 :: u39 :: u40 :: u41 :: u42 :: u43 :: u44 :: u45 :: u46 :: u47 :: u48 :: u49 :: u50 :: u51 :: u52 :: u53 :: u54 :: u55 :: u56 :: u57 :: u58 :: u59 :: u60 :: u61 :: u62 :: u63 :: u64 :: u65 :: u66 :: u67 :: u68 :: u69 :: u70 :: u71 :: u72 :: u73 :: u74 :: u75 :: u76 :: u77 :: u78 :: u79 :: u80 :: u81 :: u82 :: u83 :: u84 :: u85 :: u86 :: u87 :: u88 :: u89 :: u90 :: u91 :: u92 :: u93 :: u94 :: u95 :: u96 :: u97 :: u98 :: u99 :: u100 :: u101 :: u102 :: u103 :: u104 :: u105 :: u106 :: u107 :: u108 :: u109 :: u110 :: u111 :: u112 :: u113 :: u114 :: []), []⟩ w := by
  have HF := Lib.hid hfin
  have HR := Lib.hid hr
  have HO := Lib.hid ho
  have HT := Lib.hid (show w.drew.there mz 0 (ms.map (Value.float .f64)).toArray.size by rw [List.size_toArray, List.length_map, hm.1]; exact ht)
  have S1 := Lib.hid (size80A ms hm.1)
  have S2 := Lib.hid (size80L ms hm.1)
  clear hfin hr ho ht
  conv => arg 2; whnf
  have U44 := Try.underlying44
  have S3 := S2.out
  have O1 : ∀ v, v ∈ ms.map (Value.float .f64) → v.oneCell' = true := fun v hv => by obtain ⟨x, _, rfl⟩ := List.mem_map.1 hv; rfl
  have k0 := HR.out
  have k1 := HO.out
  have j0 : (w.drew.setCells mz 0 (ms.map (Value.float .f64))).rangeAt ga (off + 6) (ms.map (Value.float .f64)) := fun j v hj => (World.cell?_setCells_out _ _ _ _ _ (fun e _ => absurd e hne)).trans (HR.out j v hj)
  have j1 : (w.drew.setCells mz 0 (ms.map (Value.float .f64))).cell? ⟨ga, off + 22, none⟩ = some (.float .f64 ow) := (World.cell?_setCells_out _ _ _ _ _ (fun e _ => absurd e hne)).trans HO.out
  go_region_held3 (fun w' => w'.rangeAt ga (off + 6) (ms.map (Value.float .f64)) ∧ w'.cell? ⟨ga, off + 22, none⟩ = some (.float .f64 ow)) (first | exact ⟨k0, k1⟩ | exact ⟨j0, j1⟩) (first | (refine wp_store_mid 44 (.tmp 10) (.tmp 47) rfl mz 0 (ms.map (Value.float .f64)).toArray rfl rfl HT.out S1.out (one16 ms) ?_))
  exact HF.out _ _ _ _ _ _ _ _ _ _
theorem map_float_inj {a b : List Nat} (h : a.map (Value.float .f64) = b.map (Value.float .f64)) : a = b := by
  induction a generalizing b with
  | nil => cases b with
    | nil => rfl
    | cons y b => cases h
  | cons x a ih => cases b with
    | nil => cases h
    | cons y b =>
      rw [List.map_cons, List.map_cons] at h
      injection h with h1 h2
      injection h1 with _ h1
      rw [h1, ih h2]
def GP (x y : Nat) (f : FuncId) (args : Array Value) (v : Value) : Prop := (f = 36 → v = .agg ((moveL x y 0).map (Value.float .f64)).toArray) ∧
  (f = 35 → ∃ a b os : List Nat, args = #[.agg (a.map (Value.float .f64)).toArray, .agg (b.map (Value.float .f64)).toArray] ∧ v = .agg (os.map (Value.float .f64)).toArray ∧ MU os ∧ ∀ j, j < 16 → mp os j = timesP (mp a) (mp b) j)
theorem GP.times {x y : Nat} {a b : List Nat} {v : Value} (h : GP x y 35 #[.agg (a.map (Value.float .f64)).toArray, .agg (b.map (Value.float .f64)).toArray] v) : ∃ os : List Nat, v = .agg (os.map (Value.float .f64)).toArray ∧ MU os ∧ ∀ j, j < 16 → mp os j = timesP (mp a) (mp b) j := by
  obtain ⟨a', b', os, h1, h2, h3, h4⟩ := h.2 rfl
  have e := congrArg Array.toList h1
  simp only [List.cons.injEq, Value.agg.injEq, and_true] at e
  have ea := map_float_inj (by simpa using congrArg Array.toList e.1)
  have eb := map_float_inj (by simpa using congrArg Array.toList e.2)
  subst ea eb
  exact ⟨os, h2, h3, h4⟩
theorem g36 {w0 w : World} (x y : Nat) (h : Below w0.heap.size w0 w) : Calls Try.prog 36 #[.float .f64 x, .float .f64 y, .float .f64 0] w fun e w' => ∃ v, e = .returned v ∧ GP x y 36 #[.float .f64 x, .float .f64 y, .float .f64 0] v ∧ Below w0.heap.size w0 w' :=
  (k89 x y 0 w).mono fun e w' ⟨he, hb⟩ => ⟨_, he, ⟨fun _ => rfl, fun h => (by cases h)⟩, h.trans (hb.mono h.size)⟩
theorem g35 {w0 w : World} (x y : Nat) {a b : List Nat} (ha : MU a) (hb : MU b) (h : Below w0.heap.size w0 w) : Calls Try.prog 35 #[.agg (a.map (Value.float .f64)).toArray, .agg (b.map (Value.float .f64)).toArray] w
    fun e w' => ∃ v, e = .returned v ∧ GP x y 35 #[.agg (a.map (Value.float .f64)).toArray, .agg (b.map (Value.float .f64)).toArray] v ∧ Below w0.heap.size w0 w' :=
  (k99 ha hb w).mono fun e w' ⟨⟨os, he, h1, h2⟩, hb⟩ => ⟨_, he, ⟨fun h => (by cases h), fun _ => ⟨a, b, os, rfl, rfl, h1, h2⟩⟩, h.trans (hb.mono h.size)⟩
set_option maxRecDepth 100000 in
set_option maxHeartbeats 2000000 in
theorem reg15 {Q : Exit → Act → World → Prop} (w : World) (bz lz mz x y : Nat) (mu ml : List Nat) (u0 u1 u2 u3 u4 u5 u6 u7 u11 u12 u13 u14 u15 u16 u17 u18 u19 u20 u21 u22 u23 u24 u25 u26 u27 u28 u29 u30 u31 u32 u33 u34 u35 u36 u37 u38 u39 u40 u41 u42 u43 u44 u45 u46 u47 u48 u49 u50 u51 u52 u53 u54 u55 u56 u57 u58 u59 u60 u61 u62 u63 u64 u65 u66 u67 u68 u69 u70 u71 u72 u73 u74 u75 u76 u77 u78 u79 u80 u81 u82 u83 u84 u85 u86 u87 u88 u89 u90 u91 u92 u93 u94 u95 u96 u97 u98 u99 u100 u101 u102 u103 u104 u105 u106 u107 u108 u109 u110 u111 u112 u113 u114 : Value) (hu : MU mu) (hl : MU ml) (ux : U x) (uy : U y) (hr : w.rangeAt mz 0 (mu.map (Value.float .f64))) (hr2 : w.rangeAt lz 37 (ml.map (Value.float .f64)))
    (hx : w.cell? ⟨bz, 3, none⟩ = some (.float .f64 x)) (hy : w.cell? ⟨bz, 4, none⟩ = some (.float .f64 y)) (ht : w.there mz 0 16) (lb : bz < w.heap.size) (ll : lz < w.heap.size) (lm : mz < w.heap.size)
    (hfin : ∀ (v67 v68 v69 v70 v71 v72 v73 v74 v75 v76 v77 v78 : Value) (w' : World) (mf : List Nat), Below w.heap.size w w' → MU mf → (∀ j, j < 16 → mp mf j = timesP (timesP (mp mu) (mp (moveL x y 0))) (mp ml) j) → Q .normal ⟨List.toArray (u0 :: u1 :: u2 :: u3 :: u4 :: u5 :: u6 :: u7 :: .pointer (some ⟨bz, 0, none⟩) :: .pointer (some ⟨lz, 0, none⟩) :: .pointer (some ⟨mz, 0, none⟩) :: u11 :: u12 :: u13 :: u14 :: u15 :: u16 :: u17 :: u18 :: u19 :: u20 :: u21 :: u22 :: u23 :: u24 :: u25 :: u26 :: u27 :: u28 :: u29 :: u30 :: u31 :: u32 :: u33 :: u34 :: u35 :: u36 :: u37 :: u38 :: u39 :: u40 :: u41 :: u42 :: u43 :: u44 :: u45 :: u46 :: u47 :: u48 :: u49 :: u50 :: u51 :: u52 :: u53 :: u54 :: u55 :: u56 :: u57 :: u58 :: u59 :: u60 :: u61 :: u62 :: u63 :: u64 :: u65 :: u66 :: v67 :: v68 :: v69 :: v70 :: v71 :: v72 :: v73 :: v74 :: v75 :: v76 :: v77 :: v78 :: u79 :: u80 :: u81 :: u82 :: u83 :: u84 :: u85 :: u86 :: u87 :: u88 :: u89 :: u90 :: u91 :: u92 :: u93 :: u94 :: u95 :: u96 :: u97 :: u98 :: u99 :: u100 :: u101 :: u102 :: u103 :: u104 :: u105 :: u106 :: u107 :: u108 :: u109 :: u110 :: u111 :: u112 :: u113 :: u114 :: []), []⟩ (w'.setCells mz 0 (mf.map (Value.float .f64)))) : Code.wp Try.prog (tr13 15) Q ⟨List.toArray (u0 :: u1 :: u2 :: u3 :: u4 :: u5 :: u6 :: u7 :: .pointer (some ⟨bz, 0, none⟩) :: .pointer (some ⟨lz, 0, none⟩) :: .pointer (some ⟨mz, 0, none⟩) :: u11 :: u12 :: u13 :: u14 :: u15 :: u16 :: u17 :: u18 :: u19 :: u20 :: u21 :: u22 :: u23 :: u24 :: u25 :: u26 :: u27 :: u28 :: u29 :: u30 :: u31 :: u32 :: u33 :: u34 :: u35 :: u36 :: u37 :: u38 :: u39 :: u40 :: u41 :: u42 :: u43 :: u44 :: u45 :: u46 :: u47 :: u48 :: u49 :: u50 :: u51 :: u52 :: u53 :: u54 :: u55 :: u56 :: u57 :: u58 :: u59 :: u60 :: u61 :: u62 :: u63 :: u64 :: u65 :: u66 :: u67 :: u68 :: u69 :: u70 :: u71 :: u72 :: u73 :: u74 :: u75 :: u76 :: u77 :: u78 :: u79 :: u80 :: u81 :: u82 :: u83 :: u84 :: u85 :: u86 :: u87 :: u88 :: u89 :: u90 :: u91 :: u92 :: u93 :: u94 :: u95 :: u96 :: u97 :: u98 :: u99 :: u100 :: u101 :: u102 :: u103 :: u104 :: u105 :: u106 :: u107 :: u108 :: u109 :: u110 :: u111 :: u112 :: u113 :: u114 :: []), []⟩ w := by
  have HF := Lib.hid hfin
  have R1 := Lib.hid (show ∀ w', Below w.heap.size w w' → w'.rangeAt mz 0 (mu.map (Value.float .f64)) from fun w' hb => range_below hr hb lm)
  have R2 := Lib.hid (show ∀ w', Below w.heap.size w w' → w'.rangeAt lz 37 (ml.map (Value.float .f64)) from fun w' hb => range_below hr2 hb ll)
  have CX := Lib.hid (show ∀ w', Below w.heap.size w w' → w'.cell? ⟨bz, 0 + 3, none⟩ = some (.float .f64 x) from fun w' hb => (hb.cell (p := ⟨bz, 3, none⟩) lb).trans hx)
  have CY := Lib.hid (show ∀ w', Below w.heap.size w w' → w'.cell? ⟨bz, 0 + 4, none⟩ = some (.float .f64 y) from fun w' hb => (hb.cell (p := ⟨bz, 4, none⟩) lb).trans hy)
  have TH := Lib.hid (show ∀ w', Below w.heap.size w w' → w'.there mz 0 16 from fun w' hb => there_below ht hb lm)
  have S1 := Lib.hid (size80L mu hu.1)
  have S2 := Lib.hid (size80L ml hl.1)
  have HU := Lib.hid (And.intro hu (And.intro hl (moveL_MU ux uy (show U 0 by unfold U; decide))))
  clear hfin hr hr2 hx hy ht lb ll lm hu hl ux uy
  generalize hmv : moveL x y 0 = mv at *
  have HMV := Lib.hid hmv
  conv => arg 2; whnf
  refine wp_region_rel 12 (fun w' => Below w.heap.size w w') (GP x y) (by kernel_rfl) (by kernel_rfl) ((Below.refl _ _).drew) ?_
  simp only [List.take_succ_cons, List.take_zero, List.drop_succ_cons, List.drop_zero]
  refine rel_load_row mz 0 (mu.map (Value.float .f64)) _ rfl rfl R1.out Try.underlying44 rfl S1.out ?_
  simp only [Act.put, List.setIfInBounds_toArray, List.set_cons_succ, List.set_cons_zero]
  refine rel_val (v := .pointer (some ⟨bz, 3, none⟩)) rfl (fun w' hw => by go_simp) ?_
  simp only [Act.put, List.setIfInBounds_toArray, List.set_cons_succ, List.set_cons_zero]
  refine rel_val (v := .pointer (some ⟨bz, 3, none⟩)) rfl (fun w' hw => by go_simp) ?_
  simp only [Act.put, List.setIfInBounds_toArray, List.set_cons_succ, List.set_cons_zero]
  refine rel_loadF bz 3 x rfl rfl CX.out ?_
  simp only [Act.put, List.setIfInBounds_toArray, List.set_cons_succ, List.set_cons_zero]
  refine rel_val (v := .pointer (some ⟨bz, 3, none⟩)) rfl (fun w' hw => by go_simp) ?_
  simp only [Act.put, List.setIfInBounds_toArray, List.set_cons_succ, List.set_cons_zero]
  refine rel_val (v := .pointer (some ⟨bz, 4, none⟩)) rfl (fun w' hw => by go_simp) ?_
  simp only [Act.put, List.setIfInBounds_toArray, List.set_cons_succ, List.set_cons_zero]
  refine rel_loadF bz 4 y rfl rfl CY.out ?_
  simp only [Act.put, List.setIfInBounds_toArray, List.set_cons_succ, List.set_cons_zero]
  refine rel_call (f := 36) (args := #[.float .f64 x, .float .f64 y, .float .f64 0]) rfl (fun w' hw => by go_simp) (fun w' hw => g36 x y hw) (fun v hv => ?_)
  obtain rfl := hv.1 rfl
  rw [HMV.out]
  simp only [Act.put, List.setIfInBounds_toArray, List.set_cons_succ, List.set_cons_zero]
  refine rel_call (f := 35) (args := #[.agg (mu.map (Value.float .f64)).toArray, .agg (mv.map (Value.float .f64)).toArray]) rfl (fun w' hw => by go_simp) (fun w' hw => g35 x y HU.out.1 HU.out.2.2 hw) (fun v hv => ?_)
  obtain ⟨m1, rfl, u1, e1⟩ := hv.times
  simp only [Act.put, List.setIfInBounds_toArray, List.set_cons_succ, List.set_cons_zero]
  refine rel_val (v := .pointer (some ⟨lz, 37, none⟩)) rfl (fun w' hw => by go_simp) ?_
  simp only [Act.put, List.setIfInBounds_toArray, List.set_cons_succ, List.set_cons_zero]
  refine rel_load_row lz 37 (ml.map (Value.float .f64)) _ rfl rfl R2.out Try.underlying44 rfl S2.out ?_
  simp only [Act.put, List.setIfInBounds_toArray, List.set_cons_succ, List.set_cons_zero]
  refine rel_call (f := 35) (args := #[.agg (m1.map (Value.float .f64)).toArray, .agg (ml.map (Value.float .f64)).toArray]) rfl (fun w' hw => by go_simp) (fun w' hw => g35 x y u1 HU.out.2.1 hw) (fun v hv => ?_)
  obtain ⟨mf, rfl, u2, e2⟩ := hv.times
  simp only [Act.put, List.setIfInBounds_toArray, List.set_cons_succ, List.set_cons_zero]
  refine rel_nil ?_
  intro w' hw
  have E := Lib.hid (show ∀ j, j < 16 → mp mf j = timesP (timesP (mp mu) (mp mv)) (mp ml) j from fun j hj => (e2 j hj).trans (timesP_congr e1 (fun _ _ => rfl) hj))
  have T2 := Lib.hid (show w'.there mz 0 (mf.map (Value.float .f64)).toArray.size by rw [List.size_toArray, List.length_map, u2.1]; exact TH.out w' hw)
  have S3 := Lib.hid (size80A mf u2.1)
  have UM := Lib.hid u2
  have HW := Lib.hid hw
  clear e1 e2 u1 u2 hw hv
  go_wp2_with (refine wpList_store_mid rfl 44 (.tmp 10) (.tmp 78) rfl mz 0 (mf.map (Value.float .f64)).toArray rfl rfl T2.out S3.out (one16 mf) ?_)
  exact HF.out _ _ _ _ _ _ _ _ _ _ _ _ _ mf HW.out UM.out E.out
end Go.Proofs.Ytedkbjimofiphaa

namespace Go.Proofs.Ytedkbjimofiphaa
open Go.RowKit Fl
theorem kids_succ (q : Nat) (ab : Nat → Option Nat) (p : Option Nat) : kids (q + 1) ab p = kids q ab p ++ (if ab q = p then [q] else []) := by
  unfold kids
  rw [List.range_succ, List.filter_append]
  congr 1
  by_cases h : ab q = p
  · rw [if_pos h]; simp [h]
  · rw [if_neg h]; simp [h]
section
variable {fn : Nat} {caps : Array Value} {w0 w w' : World} {base ga n : Nat} {b : Nat → BX} {l : Nat → LK} {I : Nat → World → Prop} {ex : World → Nat → Prop} {m q i : Nat} {MS : Nat → List Nat} {OS : Nat → Nat} {kv : Nat → Value} {tv : Value}
/-- all but the rows: what an append onto one of them leaves -/
theorem PT.grown {e : Nat → Prop} {w' : World} (h : PT w0 w base ga n b l I ex m q i MS OS kv tv) (H : LF fn caps b l n base I ex) (o : Obj) {row : Option Nat} (hg : (w.alloc o).grownBy w' row) (hr : ∀ k, row = some k → base ≤ k ∧ k ≠ ga ∧ ¬ ex w k) :
    Keep w.heap.size (fun k => row = some k) w w' ∧ I m w' ∧ (∀ k, ex w' k → ex w k) := by
  have k1 : Keep w.heap.size (fun k => row = some k) w w' := ((Keep.refl w.heap.size _ w).alloc (Nat.le_refl _) o).trans (Keep.of_grown2 hg (by simp) (fun k hk => hk))
  have st := H.stay m w w' h.inv (k1.mono (Nat.le_refl _) fun k _ hk => ⟨(hr k hk).2.2, (hr k hk).1⟩)
  exact ⟨k1, st.1, st.2⟩
/-- a box put upon the row of those without one above -/
theorem PT.top {w' : World} {v' : Value} (h : PT w0 w base ga n b l I ex m q i MS OS kv tv) (H : LF fn caps b l n base I ex) (hab : abO b q = none) (o : Obj) (hown : w'.ownsRow base 3 1 v' ((kids q (abO b) none).length + 1) ((kids q (abO b) none).map iv ++ [iv q]))
    (hg : (w.alloc o).grownBy w' tv.ownBlock) (hd : v'.ownBlock = tv.ownBlock ∨ (v'.ownBlock = some (w.alloc o).heap.size ∧ Below (w.alloc o).heap.size (w.alloc o) w')) :
    PT w0 w' base ga n b l I ex m (q + 1) i MS OS kv v' ∧ Keep w.heap.size (fun k => tv.ownBlock = some k) w w' ∧ (∀ k, ex w' k → ex w k) ∧ (∀ k, v'.ownBlock = some k → tv.ownBlock = some k ∨ w.heap.size < k) := by
  have hsz : (w.alloc o).heap.size = w.heap.size + 1 := by simp
  obtain ⟨k1, i1, x1⟩ := h.grown (e := fun _ => False) H o hg fun k hk => ⟨(h.tp.lt k hk).1, fun e => h.nt (e ▸ hk), h.xt k hk⟩
  have nb : ∀ k, v'.ownBlock = some k → tv.ownBlock = some k ∨ w.heap.size < k := fun k hk => by
    rcases hd with hd | ⟨hd, -⟩
    · exact Or.inl (hd ▸ hk)
    · rw [hd] at hk; injection hk with hk; right; omega
  have own : ∀ {v : Value} {c : Nat} {xs : List Value}, w.ownsRow base 3 1 v c xs → ∀ g, v.ownBlock = some g → g < w.heap.size := fun ho g hg => (ho.lt g hg).2
  have kk : ∀ k, k < n → kids (q + 1) (abO b) (some k) = kids q (abO b) (some k) := fun k _ => by rw [kids_succ, hab, if_neg (by intro e; cases e), List.append_nil]
  have kn : kids (q + 1) (abO b) none = kids q (abO b) none ++ [q] := by rw [kids_succ, hab, if_pos rfl]
  refine ⟨⟨Nat.le_trans h.hB k1.size, h.gB, Nat.lt_of_lt_of_le h.gl k1.size, there_keep h.th k1 h.gl h.nt, fun k hk => range_keep (h.it k hk) k1 h.gl h.nt, fun k hk => (k1.cell (p := ⟨ga, k * 25 + 23, none⟩) h.gl h.nt).trans (h.lv k hk),
    fun k hk => (k1.cell (p := ⟨ga, k * 25 + 24, none⟩) h.gl h.nt).trans (h.kc k hk), fun k hk => by rw [kk k hk]; exact owned_keep (h.ko k hk) k1 rfl (h.aq k · hk), by rw [kn, List.length_append, List.map_append]; exact hown, h.ap, ?_, h.ng, ?_, fun hx => h.xg (x1 _ hx), fun k g hk hg2 hx => h.xk k g hk hg2 (x1 _ hx), ?_, i1,
    h.kp.trans (k1.mono h.hB fun k hk he => by have := (h.tp.lt k he).1; omega), fun k hk hx => h.px k hk (x1 k hx), h.pr⟩, k1, x1, nb⟩
  · intro k g hk hg2 hv
    rcases nb g hv with h1 | h1
    · exact h.aq k g hk hg2 h1
    · have := own (h.ko k hk) g hg2; omega
  · intro hv
    rcases nb ga hv with h1 | h1
    · exact h.nt h1
    · have := h.gl; omega
  · intro g hv hx
    rcases nb g hv with h1 | h1
    · exact h.xt g h1 (x1 g hx)
    · have := H.lt m w g h.inv (x1 g hx); omega
/-- a box put upon the row of the one above -/
theorem PT.kid {w' : World} {v' : Value} {k : Nat} (h : PT w0 w base ga n b l I ex m q i MS OS kv tv) (H : LF fn caps b l n base I ex) (hk : k < n) (hab : abO b q = some k) (o : Obj)
    (hown : w'.ownsRow base 3 1 v' ((kids q (abO b) (some k)).length + 1) ((kids q (abO b) (some k)).map iv ++ [iv q])) (hg : (w.alloc o).grownBy w' (kv k).ownBlock)
    (hd : v'.ownBlock = (kv k).ownBlock ∨ (v'.ownBlock = some (w.alloc o).heap.size ∧ Below (w.alloc o).heap.size (w.alloc o) w')) :
    (w'.cell? ⟨ga, k * 25 + 24, none⟩ = some (kv k) ∧ w'.frozen? ⟨ga, k * 25 + 24, none⟩ = false) ∧
    PT w0 (w'.setCell ⟨ga, k * 25 + 24, none⟩ v') base ga n b l I ex m (q + 1) i MS OS (fun j => if j = k then v' else kv j) tv ∧ Keep w.heap.size (fun j => (kv k).ownBlock = some j ∨ j = ga) w (w'.setCell ⟨ga, k * 25 + 24, none⟩ v') ∧
    (∀ j, ex (w'.setCell ⟨ga, k * 25 + 24, none⟩ v') j → ex w j) ∧ (∀ j, v'.ownBlock = some j → (kv k).ownBlock = some j ∨ w.heap.size < j) := by
  have hsz : (w.alloc o).heap.size = w.heap.size + 1 := by simp
  obtain ⟨k0, i0, x0⟩ := h.grown (e := fun _ => False) H o hg fun j hj => ⟨((h.ko k hk).lt j hj).1, fun e => h.ng k hk (e ▸ hj), h.xk k j hk hj⟩
  have c24 := (k0.cell (p := ⟨ga, k * 25 + 24, none⟩) h.gl (h.ng k hk)).trans (h.kc k hk)
  have f24 := (k0.frozen (p := ⟨ga, k * 25 + 24, none⟩) h.gl (h.ng k hk)).trans (show w.frozen? ⟨ga, k * 25 + 24, none⟩ = false by have := (h.th (k * 25 + 24) (by omega)).2; rwa [Nat.zero_add] at this)
  have k1 : Keep w.heap.size (fun j => (kv k).ownBlock = some j ∨ j = ga) w (w'.setCell ⟨ga, k * 25 + 24, none⟩ v') := (k0.mono (Nat.le_refl _) fun _ _ e => Or.inl e).set _ _ (fun _ => Or.inr rfl)
  have st := H.stay m w _ h.inv (k1.mono (Nat.le_refl _) fun j _ hj => by
    rcases hj with hj | rfl
    · exact ⟨h.xk k j hk hj, ((h.ko k hk).lt j hj).1⟩
    · exact ⟨h.xg, h.gB⟩)
  have x1 := st.2
  have nb : ∀ j, v'.ownBlock = some j → (kv k).ownBlock = some j ∨ w.heap.size < j := fun j hj => by
    rcases hd with hd | ⟨hd, -⟩
    · exact Or.inl (hd ▸ hj)
    · rw [hd] at hj; injection hj with hj; right; omega
  have own : ∀ {v : Value} {c : Nat} {xs : List Value}, w.ownsRow base 3 1 v c xs → ∀ g, v.ownBlock = some g → g < w.heap.size := fun ho g hg => (ho.lt g hg).2
  have kk : ∀ j, j ≠ k → kids (q + 1) (abO b) (some j) = kids q (abO b) (some j) := fun j hj => by rw [kids_succ, hab, if_neg (by intro e; injection e with e; exact hj e.symm), List.append_nil]
  have ke : kids (q + 1) (abO b) (some k) = kids q (abO b) (some k) ++ [q] := by rw [kids_succ, hab, if_pos rfl]
  have kn : kids (q + 1) (abO b) none = kids q (abO b) none := by rw [kids_succ, hab, if_neg (by intro e; cases e), List.append_nil]
  have nga : ∀ j, v'.ownBlock = some j → j ≠ ga := fun j hj e => by
    rcases nb j hj with h1 | h1
    · exact h.ng k hk (e ▸ h1)
    · have := h.gl; omega
  have o3 : (w'.setCell ⟨ga, k * 25 + 24, none⟩ v').ownsRow base 3 1 v' ((kids q (abO b) (some k)).length + 1) ((kids q (abO b) (some k)).map iv ++ [iv q]) := owned_at hown fun j hj _ => Below.heap_setCell _ _ _ _ (nga j hj)
  have oth : ∀ (j off : Nat) (hne : off ≠ k * 25 + 24), (w'.setCell ⟨ga, k * 25 + 24, none⟩ v').cell? ⟨ga, off, none⟩ = w.cell? ⟨ga, off, none⟩ := fun _ off hne => (World.cell?_setCell_other _ _ _ _ (by intro e; injection e with _ e; exact hne e.symm)).trans (k0.cell (p := ⟨ga, off, none⟩) h.gl (h.ng k hk))
  have il : ∀ j, j < i → (itCells (b j) (MS j) (OS j)).length = 23 := fun j hj => it_len (h.pr.mu j hj)
  refine ⟨⟨c24, f24⟩, ⟨Nat.le_trans h.hB k1.size, h.gB, Nat.lt_of_lt_of_le h.gl k1.size, there_set (there_keep h.th k0 h.gl (h.ng k hk)) _ _, fun j hj t v ht => ?_, fun j hj => (oth 0 _ (by omega)).trans (h.lv j hj), fun j hj => ?_, fun j hj => ?_, ?_, fun j1 j2 g h1 h2 e1 e2 => ?_, fun j g hj e1 e2 => ?_, fun j hj e => ?_, h.nt,
    fun hx => h.xg (x1 _ hx), fun j g hj e1 hx => ?_, fun g hg2 hx => h.xt g hg2 (x1 _ hx), st.1, h.kp.trans (k1.mono h.hB fun j hj he => ?_), fun j hj hx => h.px j hj (x1 j hx), h.pr⟩, k1, x1, nb⟩
  · have := (List.getElem?_eq_some_iff.1 ht).1
    rw [il j hj] at this
    exact (oth 0 _ (by omega)).trans (h.it j hj t v ht)
  · by_cases e : j = k
    · subst e; rw [if_pos rfl]; exact World.cell?_setCell_same _ _ _ c24
    · rw [if_neg e]; exact (oth 0 _ (by omega)).trans (h.kc j hj)
  · by_cases e : j = k
    · subst e
      simp only [if_pos]
      rw [ke, List.length_append, List.map_append]
      exact o3
    · simp only [if_neg e]
      rw [kk j e]
      refine owned_keep (h.ko j hj) k1 rfl fun g hg2 he => ?_
      rcases he with he | rfl
      · exact e (h.ap j k g hj hk hg2 he)
      · exact h.ng j hj hg2
  · rw [kn]
    refine owned_keep h.tp k1 rfl fun g hg2 he => ?_
    rcases he with he | rfl
    · exact h.aq k g hk he hg2
    · exact h.nt hg2
  · have side : ∀ j, j < n → j ≠ k → ∀ g, (kv j).ownBlock = some g → v'.ownBlock ≠ some g := fun j hj hne g hg2 hv => by
      rcases nb g hv with h3 | h3
      · exact hne (h.ap j k g hj hk hg2 h3)
      · have := own (h.ko j hj) g hg2; omega
    by_cases a1 : j1 = k <;> by_cases a2 : j2 = k
    · omega
    · subst a1; simp only [if_pos, if_neg a2] at e1 e2; exact absurd e1 (side j2 h2 a2 g e2)
    · subst a2; simp only [if_pos, if_neg a1] at e1 e2; exact absurd e2 (side j1 h1 a1 g e1)
    · simp only [if_neg a1, if_neg a2] at e1 e2; exact h.ap j1 j2 g h1 h2 e1 e2
  · by_cases a1 : j = k
    · subst a1
      simp only [if_pos] at e1
      rcases nb g e1 with h3 | h3
      · exact h.aq j g hj h3 e2
      · have := own h.tp g e2; omega
    · simp only [if_neg a1] at e1; exact h.aq j g hj e1 e2
  · by_cases a1 : j = k
    · subst a1; simp only [if_pos] at e; exact nga ga e rfl
    · simp only [if_neg a1] at e; exact h.ng j hj e
  · by_cases a1 : j = k
    · subst a1
      simp only [if_pos] at e1
      rcases nb g e1 with h3 | h3
      · exact h.xk j g hj h3 (x1 g hx)
      · have := H.lt m w g h.inv (x1 g hx); omega
    · simp only [if_neg a1] at e1; exact h.xk j g hj e1 (x1 g hx)
  · rcases he with he | rfl
    · have := ((h.ko k hk).lt j he).1; omega
    · have := h.gB; omega
/-- cells of spot i are written -/
theorem PT.inGa (h : PT w0 w base ga n b l I ex m q i MS OS kv tv) (H : LF fn caps b l n base I ex) (hi : i < n) (hk : Keep w.heap.size (fun k => k = ga) w w') (hc : ∀ off, off < i * 25 ∨ i * 25 + 24 ≤ off → w'.cell? ⟨ga, off, none⟩ = w.cell? ⟨ga, off, none⟩) (ht : w'.there ga 0 (n * 25)) :
    PT w0 w' base ga n b l I ex m q i MS OS kv tv ∧ ∀ k, ex w' k → ex w k := by
  have st := H.stay m w w' h.inv (hk.mono (Nat.le_refl _) fun j _ hj => by subst hj; exact ⟨h.xg, h.gB⟩)
  have il : ∀ j, j < i → (itCells (b j) (MS j) (OS j)).length = 23 := fun j hj => it_len (h.pr.mu j hj)
  refine ⟨⟨Nat.le_trans h.hB hk.size, h.gB, Nat.lt_of_lt_of_le h.gl hk.size, ht, fun j hj t v ht => ?_, fun j hj => (hc _ (by omega)).trans (h.lv j hj), fun j hj => (hc _ (by omega)).trans (h.kc j hj), fun j hj => owned_keep (h.ko j hj) hk rfl fun g hg e => h.ng j hj (e ▸ hg),
    owned_keep h.tp hk rfl fun g hg e => h.nt (e ▸ hg), h.ap, h.aq, h.ng, h.nt, fun hx => h.xg (st.2 _ hx), fun k g hk2 hg hx => h.xk k g hk2 hg (st.2 _ hx), fun g hg hx => h.xt g hg (st.2 _ hx), st.1, h.kp.trans (hk.mono h.hB fun j hj e => by have := h.gB; omega), fun k hk2 hx => h.px k hk2 (st.2 _ hx), h.pr⟩, st.2⟩
  have := (List.getElem?_eq_some_iff.1 ht).1
  rw [il j hj] at this
  exact (hc _ (by omega)).trans (h.it j hj t v ht)
/-- a spot is whole -/
theorem PT.done {ms : List Nat} {o : Nat} (h : PT w0 w base ga n b l I ex m q i MS OS kv tv) (hr : w.rangeAt ga (i * 25) (itCells (b i) ms o)) (hv : w.cell? ⟨ga, i * 25 + 23, none⟩ = some (.float .f64 (lvO l i))) (hm : MU ms) (ho : U o)
    (he : ∀ j, j < 16 → mp ms j = timesP (timesP (upM MS (abO b i)) (mp (moveL (b i).x (b i).y 0))) (mp (l i).m) j) (hp : pl o = opP .mul (upO OS (abO b i)) (pl (l i).o)) :
    PT w0 w base ga n b l I ex m q (i + 1) (fun k => if k = i then ms else MS k) (fun k => if k = i then o else OS k) kv tv := by
  refine ⟨h.hB, h.gB, h.gl, h.th, fun k hk => ?_, fun k hk => ?_, h.kc, h.ko, h.tp, h.ap, h.aq, h.ng, h.nt, h.xg, h.xk, h.xt, h.inv, h.kp, h.px, h.pr.next hm ho he hp⟩
  · by_cases e : k = i
    · subst e; simp only [if_pos]; exact hr
    · simp only [if_neg e]; exact h.it k (by omega)
  · by_cases e : k = i
    · subst e; exact hv
    · exact h.lv k (by omega)
/-- a row of the round's own is written anew -/
theorem PT.mset {g : Nat} {cs cs' : List Value} (h : PT w0 w base ga n b l I ex m q i MS OS kv tv) (H : LF fn caps b l n base I ex) (L : Loc w ex base g cs) (hl : cs'.length = cs.length) (hg : g ≠ ga) (hk : ∀ k, k < n → (kv k).ownBlock ≠ some g) (ht : tv.ownBlock ≠ some g) :
    PT w0 (w.setCells g 0 cs') base ga n b l I ex m q i MS OS kv tv ∧ Loc (w.setCells g 0 cs') ex base g cs' ∧ Keep w.heap.size (fun k => k = g) w (w.setCells g 0 cs') ∧ (∀ k, ex (w.setCells g 0 cs') k → ex w k) := by
  have k1 : Keep w.heap.size (fun k => k = g) w (w.setCells g 0 cs') := by
    have := (Only.refl g w).setCells 0 cs'
    exact Keep.of_only this (Nat.le_refl _) (fun _ => rfl)
  have st := H.stay m w _ h.inv (k1.mono (Nat.le_refl _) fun j _ hj => by subst hj; exact ⟨L.x, L.b⟩)
  have hb := L.b
  refine ⟨h.keep k1 (fun e => hg e.symm) (fun k j hk2 hj e => hk k hk2 (e ▸ hj)) (fun j hj e => ht (e ▸ hj)) st.1 (fun k hx => Or.inl (st.2 k hx)) (fun k hk2 e => by omega), ⟨fun j v hj => ?_, by rw [hl]; exact World.there_setCells L.t _ _ _, Nat.lt_of_lt_of_le L.l k1.size, L.b, fun hx => L.x (st.2 _ hx)⟩, k1, st.2⟩
  have hj2 := (List.getElem?_eq_some_iff.1 hj).1
  rw [World.cell?_setCells_in g cs' 0 _ (fun k hk => (L.t k (by omega)).1) j hj2, ← hj, List.getElem?_eq_getElem hj2]
end
theorem list16 {l : List Nat} (h : l.length = 16) : ∃ a0 a1 a2 a3 a4 a5 a6 a7 a8 a9 a10 a11 a12 a13 a14 a15, l = [a0, a1, a2, a3, a4, a5, a6, a7, a8, a9, a10, a11, a12, a13, a14, a15] := by
  match l, h with
  | [a0, a1, a2, a3, a4, a5, a6, a7, a8, a9, a10, a11, a12, a13, a14, a15], _ => exact ⟨a0, a1, a2, a3, a4, a5, a6, a7, a8, a9, a10, a11, a12, a13, a14, a15, rfl⟩
theorem built60 (b : BX) (o : Nat) (ms : List Nat) (hm : ms.length = 16) :
    Try.prog.built 60 [(0, .agg #[.int .u32 (b.sl : Int), .int .u32 (b.gn : Int)]), (1, .agg #[.float .f64 0, .float .f64 0, .float .f64 b.w, .float .f64 b.h]), (2, .agg (ms.map (Value.float .f64)).toArray), (3, .float .f64 o)] = some (itCells b ms o).toArray := by
  obtain ⟨a0, a1, a2, a3, a4, a5, a6, a7, a8, a9, a10, a11, a12, a13, a14, a15, rfl⟩ := list16 hm
  kernel_rfl
theorem range_mat {w : World} {g o : Nat} {b : BX} {ms : List Nat} {q : Nat} (h : w.rangeAt g o (itCells b ms q)) : w.rangeAt g (o + 6) (ms.map (Value.float .f64)) := fun j v hj => by
  have hl := (List.getElem?_eq_some_iff.1 hj).1
  have := h (6 + j) v (by unfold itCells; rw [List.getElem?_append_right (by simp), show 6 + j - [Value.int IntKind.u32 (b.sl : Int), .int .u32 (b.gn : Int), .float .f64 0, .float .f64 0, .float .f64 b.w, .float .f64 b.h].length = j by simp, List.getElem?_append_left hl]; exact hj)
  rwa [← Nat.add_assoc] at this
theorem cell_op {w : World} {g o : Nat} {b : BX} {ms : List Nat} {q : Nat} (hm : MU ms) (h : w.rangeAt g o (itCells b ms q)) : w.cell? ⟨g, o + 22, none⟩ = some (.float .f64 q) := by
  refine h 22 _ ?_
  unfold itCells
  rw [List.getElem?_append_right (by simp), show 22 - [Value.int IntKind.u32 (b.sl : Int), .int .u32 (b.gn : Int), .float .f64 0, .float .f64 0, .float .f64 b.w, .float .f64 b.h].length = 16 by simp, List.getElem?_append_right (by rw [List.length_map, hm.1]; omega), List.length_map, hm.1]
  rfl
theorem new_one (w : World) (v : Value) (t : TypeId) : ∀ j u, [v][j]? = some u → (w.alloc (.cells #[v] t)).cell? ((⟨w.heap.size, 0, none⟩ : Addr).add j) = some u := fun j u hj => by
  rw [Addr.add_lit, Nat.zero_add, World.cell?_alloc_new]
  match j, hj with
  | 0, hj => exact hj
theorem lk_mat {w : World} {g : Nat} {l : LK} (h : w.rangeAt g 0 l.cells) : w.rangeAt g 37 (l.m.map (Value.float .f64)) := fun j v hj => by
  have hl := (List.getElem?_eq_some_iff.1 hj).1
  have := h (37 + j) v (by unfold LK.cells; rw [List.getElem?_append_right (by show 37 ≤ 37 + j; omega), show 37 + j - (lkPre l.o).length = j by show 37 + j - 37 = j; omega, List.getElem?_append_left hl]; exact hj)
  rwa [Nat.zero_add] at this
theorem lk_o {w : World} {g : Nat} {l : LK} (h : w.rangeAt g 0 l.cells) : w.cell? ⟨g, 2, none⟩ = some (.float .f64 l.o) := h 2 _ rfl
theorem lk_v {w : World} {g : Nat} {l : LK} (hl : l.OK) (h : w.rangeAt g 0 l.cells) : w.cell? ⟨g, 53, none⟩ = some (.float .f64 l.v) := by
  refine h 53 _ ?_
  unfold LK.cells
  rw [List.getElem?_append_right (by show 37 ≤ 53; omega), show 53 - (lkPre l.o).length = 16 by rfl, List.getElem?_append_right (by rw [List.length_map, hl.m.1]; omega), List.length_map, hl.m.1]
  rfl
theorem wpList_builtC {P : Program} {ops : Array Oper} {rest : List Oper} {o : Oper} {a : Act} {w : World} {Q : Exit → Act → World → Prop} (hg : o.guard = none) (t : TypeId) (parts : List (Nat × Operand)) (ho : o.op = .build t parts.toArray) (vs : List (Nat × Value)) (cells : Array Value)
    (hv : parts.map (fun p => (p.1, a.eval p.2)) = vs) (hf : P.built t vs = some cells) (h : wpList P ops Q rest (a.put o.dst (.agg cells)) w) : wpList P ops Q (o :: rest) a w := by
  have e : (parts.toArray.map fun (i, x) => (i, a.eval x)).toList = vs := by rw [← hv]; simp
  exact wpList_build hg t parts.toArray ho (by rw [e, hf]; rfl) (by rw [e, hf]; exact h)
theorem run_mul (x y : Nat) (w : World) (hx : U x) (hy : U y) : ∃ r q, (binOp .mul 31 (.float .f64 x) (.float .f64 y)).run Try.prog w = .ok (.float .f64 r) (w.drewN q) ∧ U r ∧ pl r = opP .mul (pl x) (pl y) :=
  have h := RV.fop .mul (RV.self hx) (RV.self hy) w
  ⟨_, _, run_fop (P := Try.prog) .mul rfl 31 x y w, h.1, h.2⟩
theorem info60s (b : BX) {ms : List Nat} (o : Nat) (hm : MU ms) : (Try.prog.info? 60).map (·.size) = some (itCells b ms o).toArray.size := by
  rw [List.size_toArray, it_len hm]
  have h := info60
  cases hx : Try.prog.info? 60 with
  | none => rw [hx] at h; cases h
  | some i0 => rw [hx] at h; simp at h; simp [h.1]
section
variable {fn : Nat} {caps : Array Value} {w0 w w' : World} {base ga n : Nat} {b : Nat → BX} {l : Nat → LK} {I : Nat → World → Prop} {ex : World → Nat → Prop} {m q i : Nat} {MS : Nat → List Nat} {OS : Nat → Nat} {kv : Nat → Value} {tv : Value}
theorem PT.itemSet (h : PT w0 w base ga n b l I ex m q i MS OS kv tv) (H : LF fn caps b l n base I ex) (hi : i < n) (cs : List Value) (hl : cs.length = 23) :
    PT w0 (w.setCells ga (i * 25) cs) base ga n b l I ex m q i MS OS kv tv ∧ (w.setCells ga (i * 25) cs).rangeAt ga (i * 25) cs ∧ Keep w.heap.size (fun k => k = ga) w (w.setCells ga (i * 25) cs) ∧ ∀ k, ex (w.setCells ga (i * 25) cs) k → ex w k := by
  have k1 : Keep w.heap.size (fun k => k = ga) w (w.setCells ga (i * 25) cs) := Keep.of_only ((Only.refl ga w).setCells (i * 25) cs) (Nat.le_refl _) (fun _ => rfl)
  have th : ∀ j, j < cs.length → (w.cell? ⟨ga, i * 25 + j, none⟩).isSome = true := fun j hj => by have := (h.th (i * 25 + j) (by omega)).1; rwa [Nat.zero_add] at this
  obtain ⟨h1, h2⟩ := h.inGa H hi k1 (fun off ho => World.cell?_setCells_out ga cs (i * 25) w _ (fun _ _ => by
    rcases ho with ho | ho
    · exact Or.inl (by simpa using ho)
    · exact Or.inr (by rw [hl]; simp only; omega))) (World.there_setCells h.th _ _ _)
  refine ⟨h1, fun j v hj => ?_, k1, h2⟩
  have hj2 := (List.getElem?_eq_some_iff.1 hj).1
  rw [World.cell?_setCells_in ga cs (i * 25) w th j hj2, ← hj, List.getElem?_eq_getElem hj2]
theorem PT.levelSet {cs : List Value} (h : PT w0 w base ga n b l I ex m q i MS OS kv tv) (H : LF fn caps b l n base I ex) (hi : i < n) (hr : w.rangeAt ga (i * 25) cs) (hl : cs.length = 23) (v : Nat) :
    (store ⟨ga, i * 25 + 23, none⟩ (.float .f64 v)).run Try.prog w = .ok () (w.setCell ⟨ga, i * 25 + 23, none⟩ (.float .f64 v)) ∧
    PT w0 (w.setCell ⟨ga, i * 25 + 23, none⟩ (.float .f64 v)) base ga n b l I ex m q i MS OS kv tv ∧ (w.setCell ⟨ga, i * 25 + 23, none⟩ (.float .f64 v)).rangeAt ga (i * 25) cs ∧ (w.setCell ⟨ga, i * 25 + 23, none⟩ (.float .f64 v)).cell? ⟨ga, i * 25 + 23, none⟩ = some (.float .f64 v) ∧
    Keep w.heap.size (fun k => k = ga) w (w.setCell ⟨ga, i * 25 + 23, none⟩ (.float .f64 v)) ∧ ∀ k, ex (w.setCell ⟨ga, i * 25 + 23, none⟩ (.float .f64 v)) k → ex w k := by
  have k1 : Keep w.heap.size (fun k => k = ga) w (w.setCell ⟨ga, i * 25 + 23, none⟩ (.float .f64 v)) := (Keep.refl _ _ w).set _ _ (fun _ => rfl)
  obtain ⟨t1, t2⟩ := h.th (i * 25 + 23) (by omega)
  rw [Nat.zero_add] at t1 t2
  obtain ⟨u, hu⟩ := Option.isSome_iff_exists.1 t1
  have oth : ∀ off, off ≠ i * 25 + 23 → (w.setCell ⟨ga, i * 25 + 23, none⟩ (.float .f64 v)).cell? ⟨ga, off, none⟩ = w.cell? ⟨ga, off, none⟩ := fun off hne => World.cell?_setCell_other _ _ _ _ (by intro e; injection e with _ e; exact hne e.symm)
  obtain ⟨h1, h2⟩ := h.inGa H hi k1 (fun off ho => oth off (by omega)) (there_set h.th _ _)
  refine ⟨by rw [run_store Try.prog _ _ _ _ rfl, hu, t2]; rfl, h1, fun j x hj => ?_, World.cell?_setCell_same _ _ _ hu, k1, h2⟩
  have := (List.getElem?_eq_some_iff.1 hj).1
  exact (oth _ (by omega)).trans (hr j x hj)
end
theorem KV.of_owned {w : World} {base : Nat} {v : Value} {d : List Nat} (h : w.ownsRow base 3 1 v d.length (d.map iv)) : KV w v d := by
  rcases h.2 with ⟨rfl, h0⟩ | ⟨g, cap, cur, rfl, h2, h3, h4⟩
  · exact Or.inl ⟨rfl, List.length_eq_zero_iff.1 h0⟩
  · refine Or.inr ⟨g, cap, rfl, fun j v hj => ?_, fun j hj => ?_, (h.lt g rfl).2⟩
    · have hl := (List.getElem?_eq_some_iff.1 hj).1
      rw [List.length_map] at hl
      rw [Nat.zero_add, h.cellAt j (by omega)]; exact hj
    · rw [Nat.zero_add]
      exact ⟨by rw [h.cellAt j (by omega), List.getElem?_eq_getElem (by rw [List.length_map]; exact hj)]; rfl, h.frozenAt j⟩
def itF (n : Nat) (b : Nat → BX) (MS : Nat → List Nat) (OS : Nat → Nat) (i : Nat) : List Value := if i < n then itCells (b i) (MS i) (OS i) else itCells (b i) (List.replicate 16 0) 0
theorem PT.spots {w0 w : World} {base ga n : Nat} {b : Nat → BX} {l : Nat → LK} {I : Nat → World → Prop} {ex : World → Nat → Prop} {m : Nat} {MS : Nat → List Nat} {OS : Nat → Nat} {kv : Nat → Value} {tv : Value} {c : Nat} (h : PT w0 w base ga n b l I ex m n n MS OS kv tv)
    (hl : ∀ i, i < n → (l i).OK) (hn : n ≤ 1048576) : PH w base ga n c (lvO l) (itF n b MS OS) kv (abO b) tv := by
  refine ⟨⟨fun i => ?_, fun i => ?_, fun i hi => ?_, h.kc, fun i hi => KV.of_owned (h.ko i hi), fun i g hi hg => ⟨((h.ko i hi).lt g hg).1, ((h.ko i hi).lt g hg).2, fun e => h.ng i hi (e ▸ hg)⟩, h.ap⟩, h.lv, fun i hi => ?_, h.gl, h.hB, KV.of_owned h.tp,
    fun g hg => ⟨(h.tp.lt g hg).1, (h.tp.lt g hg).2, fun e => h.nt (e ▸ hg), fun i hi e => h.aq i g hi e hg⟩, fun i k _ hk => abO_lt hk, hn⟩
  · unfold itF; split
    · rename_i hi; exact it_len (h.pr.mu i hi)
    · exact it_len ⟨rfl, fun x hx => by rw [List.eq_of_mem_replicate hx]; unfold U; decide⟩
  · unfold itF; split <;> exact it_one _ _ _
  · unfold itF; rw [if_pos hi]; exact h.it i hi
  · unfold lvO
    cases hv : isN (l i).v with
    | true => exact ⟨(show U 0 by unfold U; decide), (show pl 0 ≠ 9223372036854775807 by decide)⟩
    | false => exact ⟨(hl i hi).v, fun e => by
      have e2 : pl (l i).v = 9223372036854775807 := e
      rw [isN_iff_pl, e2] at hv
      exact absurd hv (by decide)⟩
theorem itF_flat {n : Nat} {b : Nat → BX} {MS : Nat → List Nat} {OS : Nat → Nat} {L : List Nat} (h : ∀ x ∈ L, x < n) : L.flatMap (itF n b MS OS) = L.flatMap (fun i => itCells (b i) (MS i) (OS i)) := by
  induction L with
  | nil => rfl
  | cons x L ih => rw [List.flatMap_cons, List.flatMap_cons, ih fun y hy => h y (List.mem_cons_of_mem _ hy)]; unfold itF; rw [if_pos (h x (List.mem_cons_self ..))]
end Go.Proofs.Ytedkbjimofiphaa

namespace Go.Proofs.Ytedkbjimofiphaa
open Go.RowKit Fl
structure SH where
  slot : Int
  ab : Int
  x : Nat
  y : Nat
  w : Nat
  h : Nat
  m : List Nat
  o : Nat
  v : Nat
structure SH.OK (s : SH) : Prop where
  x : U s.x
  y : U s.y
  w : U s.w
  h : U s.h
  m : MU s.m
  o : U s.o
  v : U s.v
def SH.cells (s : SH) : List Value := [.int .i64 s.slot, .int .i64 s.ab, .float .f64 s.x, .float .f64 s.y, .float .f64 s.w, .float .f64 s.h] ++ (s.m.map (Value.float .f64) ++ [.float .f64 s.o, .float .f64 s.v])
def SH.lk (s : SH) : LK := ⟨s.o, s.v, s.m⟩
def SH.bx (s : SH) : BX := ⟨(s.slot % 4294967296).toNat, 1, s.ab, s.x, s.y, s.w, s.h⟩
theorem built52 (o v : Nat) (m : List Nat) (hm : m.length = 16) : Try.prog.built 52 [(2, .float .f64 o), (16, .float .f64 v), (15, .agg (m.map (Value.float .f64)).toArray)] = some (LK.cells ⟨o, v, m⟩).toArray := by
  obtain ⟨a0, a1, a2, a3, a4, a5, a6, a7, a8, a9, a10, a11, a12, a13, a14, a15, rfl⟩ := list16 hm
  kernel_rfl
def Z54 : Array Value := (List.toArray (.int .i64 0 :: .float .f64 0 :: .float .f64 0 :: .float .f64 0 :: .int .i64 0 :: .float .f64 0 :: .int .i64 0 :: .float .f64 0 :: .int .i64 0 :: .float .f64 0 :: .int .i64 0 :: .float .f64 0 :: .int .i64 0 :: .float .f64 0 :: .int .i64 0 :: .float .f64 0 :: .int .i64 0 :: .float .f64 0 :: .int .i64 0 :: .float .f64 0 :: .int .i64 0 :: .float .f64 0 :: .int .i64 0 :: .float .f64 0 :: .int .i64 0 :: .float .f64 0 :: .int .i64 0 :: .float .f64 0 :: .int .i64 0 :: .float .f64 0 :: .int .i64 0 :: .float .f64 0 :: .float .f64 0 :: .float .f64 0 :: .int .i64 0 :: .float .f64 0 :: .int .i64 0 :: .float .f64 0 :: .float .f64 0 :: .float .f64 0 :: .float .f64 0 :: .float .f64 0 :: .float .f64 0 :: .float .f64 0 :: .float .f64 0 :: .float .f64 0 :: .float .f64 0 :: .float .f64 0 :: .float .f64 0 :: .float .f64 0 :: .float .f64 0 :: .float .f64 0 :: .float .f64 0 :: .float .f64 0 :: []))
theorem info35g : (Try.prog.info? 35).map (·.size) = some 7 := by kernel_rfl
theorem info52b : (Try.prog.info? 52).map (·.size) = some 54 := by kernel_rfl
theorem lk_sz {l : LK} (h : l.OK) : (Try.prog.info? 52).map (·.size) = some l.cells.toArray.size := by
  have e : l.cells.toArray.size = 54 := by rw [List.size_toArray]; exact lk_len h
  rw [e]; exact info52b
theorem sh_len {s : SH} (h : s.OK) : s.cells.length = 24 := by unfold SH.cells; rw [List.length_append, List.length_append, List.length_map, h.m.1]; rfl
theorem sh_mat {w : World} {g o : Nat} {s : SH} (h : w.rangeAt g o s.cells) : w.rangeAt g (o + 6) (s.m.map (Value.float .f64)) := fun j v hj => by
  have hl := (List.getElem?_eq_some_iff.1 hj).1
  have := h (6 + j) v (by unfold SH.cells; rw [List.getElem?_append_right (by simp), show 6 + j - [Value.int IntKind.i64 s.slot, .int .i64 s.ab, .float .f64 s.x, .float .f64 s.y, .float .f64 s.w, .float .f64 s.h].length = j by simp, List.getElem?_append_left hl]; exact hj)
  rwa [← Nat.add_assoc] at this
theorem sh_o {w : World} {g o : Nat} {s : SH} (hs : s.OK) (h : w.rangeAt g o s.cells) : w.cell? ⟨g, o + 22, none⟩ = some (.float .f64 s.o) ∧ w.cell? ⟨g, o + 23, none⟩ = some (.float .f64 s.v) := by
  refine ⟨h 22 _ ?_, h 23 _ ?_⟩
  · unfold SH.cells
    rw [List.getElem?_append_right (by simp), show 22 - [Value.int IntKind.i64 s.slot, .int .i64 s.ab, .float .f64 s.x, .float .f64 s.y, .float .f64 s.w, .float .f64 s.h].length = 16 by simp, List.getElem?_append_right (by rw [List.length_map, hs.m.1]; omega), List.length_map, hs.m.1]
    rfl
  · unfold SH.cells
    rw [List.getElem?_append_right (by simp), show 23 - [Value.int IntKind.i64 s.slot, .int .i64 s.ab, .float .f64 s.x, .float .f64 s.y, .float .f64 s.w, .float .f64 s.h].length = 17 by simp, List.getElem?_append_right (by rw [List.length_map, hs.m.1]; omega), List.length_map, hs.m.1]
    rfl
theorem lk_OK {s : SH} (h : s.OK) : s.lk.OK := ⟨h.o, h.v, h.m⟩
set_option maxRecDepth 100000 in
set_option maxHeartbeats 1000000 in
theorem c24L (w : World) (s : SH) (hs : s.OK) : Calls Try.prog 24 #[.agg s.cells.toArray] w fun e w' => e = .returned (.agg s.lk.cells.toArray) ∧ Below w.heap.size w w' := by
  have B1 := Lib.hid (show Below w.heap.size w ((w.alloc (.cells s.cells.toArray 56)).alloc (.cells Z54 52)) from ((Below.refl _ _).alloc (Nat.le_refl _) _).alloc (by simp) _)
  have R0 := range_new w s.cells 56
  have T1 := Lib.hid (show ((w.alloc (.cells s.cells.toArray 56)).alloc (.cells Z54 52)).there (w.heap.size + 1) 0 54 by
    have := there_new (w.alloc (.cells s.cells.toArray 56)) Z54 52 54 rfl
    rwa [show (w.alloc (.cells s.cells.toArray 56)).heap.size = w.heap.size + 1 by simp] at this)
  have R1 := Lib.hid (show ((w.alloc (.cells s.cells.toArray 56)).alloc (.cells Z54 52)).rangeAt w.heap.size 0 s.cells from range_below R0 ((Below.refl (w.alloc (.cells s.cells.toArray 56)).heap.size _).alloc (Nat.le_refl _) (.cells Z54 52)) (by simp))
  have BT := Lib.hid (built52 s.o s.v s.m hs.m.1)
  have SZ := Lib.hid (lk_sz (lk_OK hs))
  have OL := Lib.hid (all_oneCell_toArray (lk_one s.lk))
  have HS := Lib.hid hs
  have SM := Lib.hid (size80L s.m hs.m.1)
  clear R0 hs
  go_enter Try.func24, Try.ntmps24
  go_upto_region 1 with fail
  obtain ⟨W1, hW1⟩ : ∃ W1, W1 = (w.alloc (.cells s.cells.toArray 56)).alloc (.cells Z54 52) := ⟨_, rfl⟩
  rw [← hW1] at B1 T1 R1
  show Code.wp _ _ _ _ ((w.alloc (.cells s.cells.toArray 56)).alloc (.cells Z54 52))
  rw [← hW1]
  clear hW1
  obtain ⟨co, cv⟩ := sh_o HS.out R1.out
  rw [Nat.zero_add] at co cv
  have RM := Lib.hid (sh_mat R1.out)
  have T2 := Lib.hid (show W1.there (w.heap.size + 1) 0 s.lk.cells.toArray.size by
    have e : s.lk.cells.toArray.size = 54 := by rw [List.size_toArray]; exact lk_len (lk_OK HS.out)
    rw [e]; exact T1.out)
  go_wp2_with (first
    | (refine wpList_load_mid rfl 44 (.tmp 7) rfl w.heap.size 6 rfl (s.m.map (Value.float .f64)) _ RM.out Try.underlying44 rfl SM.out ?_)
    | (refine wpList_builtC rfl 52 [(2, .tmp 4), (16, .tmp 6), (15, .tmp 8)] rfl [(2, .float .f64 s.o), (16, .float .f64 s.v), (15, .agg (s.m.map (Value.float .f64)).toArray)] s.lk.cells.toArray rfl BT.out ?_)
    | (refine wpList_store_mid rfl 52 (.tmp 2) (.tmp 9) rfl (w.heap.size + 1) 0 s.lk.cells.toArray rfl rfl T2.out SZ.out OL.out ?_))
  refine bodyPost_ret (v := .agg s.lk.cells.toArray) (ret_row Try.prog Try.results24 rfl s.lk.cells (by have := T2.out; rwa [List.size_toArray] at this) Try.underlying52 rfl (by have := SZ.out; rwa [List.size_toArray] at this)) rfl ?_
  exact ⟨rfl, below_setCells B1.out (by omega) 0 _⟩
set_option maxRecDepth 100000 in
set_option maxHeartbeats 1000000 in
theorem c25B (w : World) (s : SH) (hs : s.OK) : Calls Try.prog 25 #[.agg s.cells.toArray] w fun e w' => e = .returned (.agg s.bx.cells.toArray) ∧ Below w.heap.size w w' := by
  have B1 := Lib.hid (show Below w.heap.size w ((w.alloc (.cells s.cells.toArray 56)).alloc (.cells #[.int .u32 0, .int .u32 0, .int .i64 0, .float .f64 0, .float .f64 0, .float .f64 0, .float .f64 0] 35)) from ((Below.refl _ _).alloc (Nat.le_refl _) _).alloc (by simp) _)
  have R0 := range_new w s.cells 56
  have T1 := Lib.hid (show ((w.alloc (.cells s.cells.toArray 56)).alloc (.cells #[.int .u32 0, .int .u32 0, .int .i64 0, .float .f64 0, .float .f64 0, .float .f64 0, .float .f64 0] 35)).there (w.heap.size + 1) 0 7 by
    have := there_new (w.alloc (.cells s.cells.toArray 56)) #[.int .u32 0, .int .u32 0, .int .i64 0, .float .f64 0, .float .f64 0, .float .f64 0, .float .f64 0] 35 7 rfl
    rwa [show (w.alloc (.cells s.cells.toArray 56)).heap.size = w.heap.size + 1 by simp] at this)
  have R1 := Lib.hid (show ((w.alloc (.cells s.cells.toArray 56)).alloc (.cells #[.int .u32 0, .int .u32 0, .int .i64 0, .float .f64 0, .float .f64 0, .float .f64 0, .float .f64 0] 35)).rangeAt w.heap.size 0 s.cells from range_below R0 ((Below.refl (w.alloc (.cells s.cells.toArray 56)).heap.size _).alloc (Nat.le_refl _) _) (by simp))
  have OL := Lib.hid (box_one s.bx)
  obtain ⟨k, hk⟩ : ∃ k : Nat, s.slot % 4294967296 = (k : Int) := ⟨(s.slot % 4294967296).toNat, by omega⟩
  have EB := Lib.hid (show s.bx.cells = [.int .u32 (k : Int), .int .u32 1, .int .i64 s.ab, .float .f64 s.x, .float .f64 s.y, .float .f64 s.w, .float .f64 s.h] by unfold BX.cells SH.bx; rw [hk]; rfl)
  rw [EB.out] at OL ⊢
  clear R0 hs
  go_enter Try.func25, Try.ntmps25
  go_upto_region 1 with fail
  generalize (w.alloc (.cells s.cells.toArray 56)).alloc (.cells #[.int .u32 0, .int .u32 0, .int .i64 0, .float .f64 0, .float .f64 0, .float .f64 0, .float .f64 0] 35) = W1 at *
  have c0 := R1.out 0 (.int .i64 s.slot) rfl
  have c1 := R1.out 1 (.int .i64 s.ab) rfl
  have c2 := R1.out 2 (.float .f64 s.x) rfl
  have c3 := R1.out 3 (.float .f64 s.y) rfl
  have c4 := R1.out 4 (.float .f64 s.w) rfl
  have c5 := R1.out 5 (.float .f64 s.h) rfl
  simp only [Nat.zero_add] at c0 c1 c2 c3 c4 c5
  go_wp2_with (first
    | (refine wpList_store_mid rfl 35 (.tmp 2) (.tmp 11) rfl (w.heap.size + 1) 0 ([.int .u32 (k : Int), .int .u32 1, .int .i64 s.ab, .float .f64 s.x, .float .f64 s.y, .float .f64 s.w, .float .f64 s.h] : List Value).toArray rfl rfl T1.out info35g OL.out ?_))
  refine bodyPost_ret (v := .agg ([.int .u32 (k : Int), .int .u32 1, .int .i64 s.ab, .float .f64 s.x, .float .f64 s.y, .float .f64 s.w, .float .f64 s.h] : List Value).toArray) (ret_row Try.prog Try.results25 rfl [.int .u32 (k : Int), .int .u32 1, .int .i64 s.ab, .float .f64 s.x, .float .f64 s.y, .float .f64 s.w, .float .f64 s.h] T1.out Try.underlying35 rfl info35g) rfl ?_
  exact ⟨rfl, below_setCells B1.out (by omega) 0 _⟩
end Go.Proofs.Ytedkbjimofiphaa
