/- The law SceneParts: its drawn regions, printed by gen_sp.py. -/
import Derived.Test.YtedkbjimofiphaaMgOpA
namespace Go.Proofs.Ytedkbjimofiphaa
open Go.RowKit Fl
theorem wpOp_val {P : Program} {ops : Array Oper} {Q : Exit → Act → World → Prop} {K : Act → World → Prop} {i : Nat} {a : Act} {w : World} (o : Oper) (v : Value) (w' : World) (ho : ops[i]? = some o) (hw : Region.wanted o (yielded ops a.tmps) = true) (hr : (execOp a.eval o).run P w = .ok (.value v) w') (h : K (a.put o.dst v) w') : wpOp P ops Q i K a w := by
  unfold wpOp
  simp only [ho, hw, if_true]
  left
  unfold Oper.wp
  rw [hr]
  exact h
noncomputable def tr5 (n : Nat) : Code := (Try.f5.body.bind (findRegion n)).getD .skip
/-- what Total and SameTotal may answer -/
def GT (T : Nat → ITM) (n : Nat) (f : FuncId) (_ : Array Value) (v : Value) : Prop := (f = 16 → ∃ a b q0 q1 q2 q3, v = totV n a b q0 q1 q2 q3 ∧ TotR T n a b q0 q1 q2 q3) ∧ (f = 17 → v = .bool true)
theorem TotR.ok {T : Nat → ITM} {n a b q0 q1 q2 q3 : Nat} (h : TotR T n a b q0 q1 q2 q3) : (TO.mk a b q0 q1 q2 q3).OK := ⟨h.a.1, h.b.1, h.q0.1, h.q1.1, h.q2.1, h.q3.1⟩
theorem TotR.turn {T : Nat → ITM} {n a b q0 q1 q2 q3 a' b' q0' q1' q2' q3' : Nat} (h : TotR T n a b q0 q1 q2 q3) (h' : TotR (trn T n) n a' b' q0' q1' q2' q3') : (TO.mk a b q0 q1 q2 q3).Sim (TO.mk a' b' q0' q1' q2' q3') := by
  obtain ⟨e1, e2, e3, e4⟩ := bd_turn T n
  obtain ⟨s1, s2⟩ := tot_turn T n
  refine ⟨?_, ?_, ?_, ?_, ?_, ?_⟩
  · show pl a = pl a'; rw [h.a.2, h'.a.2, s1]
  · show pl b = pl b'; rw [h.b.2, h'.b.2, s2]
  · show pl q0 = pl q0'; rw [h.q0.2, h'.q0.2, e1]
  · show pl q1 = pl q1'; rw [h.q1.2, h'.q1.2, e2]
  · show pl q2 = pl q2'; rw [h.q2.2, h'.q2.2, e1, e3]
  · show pl q3 = pl q3'; rw [h.q3.2, h'.q3.2, e2, e4]
theorem TO.all (n : Nat) (t : TO) : (t.cells n).toArray.all (·.oneCell') = true := by
  refine all_oneCell_toArray fun u hu => ?_
  simp only [TO.cells, List.mem_cons, List.not_mem_nil, or_false] at hu
  rcases hu with rfl | rfl | rfl | rfl | rfl | rfl | rfl <;> rfl
set_option maxRecDepth 100000 in
set_option maxHeartbeats 2000000 in
theorem sreg10 {Q : Exit → Act → World → Prop} (w : World) (T : Nat → ITM) (n p8 a b q0 q1 q2 q3 : Nat) (tv : Value) (u0 u1 u2 u3 u4 u5 u7 u9 u10 u11 u12 u13 u14 u15 u16 u17 u18 u19 u20 u21 u22 u23 u24 u25 u26 u27 u28 u29 u30 u31 u32 u33 u34 u35 u36 u37 u38 u39 u40 u41 u42 u43 u44 u45 u46 u47 u48 u49 u50 u51 u52 u53 u54 u55 u56 u57 u58 u59 u60 u61 u62 u63 u64 u65 u66 u67 u68 u69 u70 u71 u72 u73 u74 u75 u76 u77 u78 u79 u80 u81 u82 u83 u84 u85 u86 u87 u88 u89 u90 u91 u92 u93 u94 u95 u96 u97 u98 u99 u100 u101 u102 u103 u104 u105 u106 u107 u108 u109 u110 u111 u112 u113 u114 u115 u116 u117 u118 u119 u120 u121 u122 u123 u124 u125 u126 u127 u128 u129 u130 u131 u132 u133 u134 u135 u136 u137 u138 u139 u140 u141 u142 u143 u144 u145 u146 u147 u148 u149 u150 u151 u152 u153 u154 u155 u156 u157 u158 u159 u160 u161 u162 u163 u164 u165 u166 u167 u168 u169 u170 u171 u172 u173 u174 u175 u176 u177 u178 u179 u180 u181 u182 u183 : Value) (h8 : w.rangeAt p8 0 (TO.cells n ⟨a, b, q0, q1, q2, q3⟩)) (l8 : p8 < w.heap.size) (hR : TotR T n a b q0 q1 q2 q3)
    (hT : ∀ w', Below w.heap.size w w' → Calls Try.prog 16 #[tv] w' fun e w'' => (∃ a b q0 q1 q2 q3, e = .returned (totV n a b q0 q1 q2 q3) ∧ TotR (trn T n) n a b q0 q1 q2 q3) ∧ Below w'.heap.size w' w'')
    (hfin : ∀ (v44 v45 v46 v47 : Value) (w' : World), Below w.heap.size w w' → Q .normal ⟨List.toArray (u0 :: u1 :: u2 :: u3 :: u4 :: u5 :: tv :: u7 :: .pointer (some ⟨p8, 0, none⟩) :: .bool true :: u10 :: u11 :: u12 :: u13 :: u14 :: u15 :: u16 :: u17 :: u18 :: u19 :: u20 :: u21 :: u22 :: u23 :: u24 :: u25 :: u26 :: u27 :: u28 :: u29 :: u30 :: u31 :: u32 :: u33 :: u34 :: u35 :: u36 :: u37 :: u38 :: u39 :: u40 :: u41 :: u42 :: u43 :: v44 :: v45 :: v46 :: v47 :: u48 :: u49 :: u50 :: u51 :: u52 :: u53 :: u54 :: u55 :: u56 :: u57 :: u58 :: u59 :: u60 :: u61 :: u62 :: u63 :: u64 :: u65 :: u66 :: u67 :: u68 :: u69 :: u70 :: u71 :: u72 :: u73 :: u74 :: u75 :: u76 :: u77 :: u78 :: u79 :: u80 :: u81 :: u82 :: u83 :: u84 :: u85 :: u86 :: u87 :: u88 :: u89 :: u90 :: u91 :: u92 :: u93 :: u94 :: u95 :: u96 :: u97 :: u98 :: u99 :: u100 :: u101 :: u102 :: u103 :: u104 :: u105 :: u106 :: u107 :: u108 :: u109 :: u110 :: u111 :: u112 :: u113 :: u114 :: u115 :: u116 :: u117 :: u118 :: u119 :: u120 :: u121 :: u122 :: u123 :: u124 :: u125 :: u126 :: u127 :: u128 :: u129 :: u130 :: u131 :: u132 :: u133 :: u134 :: u135 :: u136 :: u137 :: u138 :: u139 :: u140 :: u141 :: u142 :: u143 :: u144 :: u145 :: u146 :: u147 :: u148 :: u149 :: u150 :: u151 :: u152 :: u153 :: u154 :: u155 :: u156 :: u157 :: u158 :: u159 :: u160 :: u161 :: u162 :: u163 :: u164 :: u165 :: u166 :: u167 :: u168 :: u169 :: u170 :: u171 :: u172 :: u173 :: u174 :: u175 :: u176 :: u177 :: u178 :: u179 :: u180 :: u181 :: u182 :: u183 :: []), []⟩ w') : Code.wp Try.prog (tr5 10) Q ⟨List.toArray (u0 :: u1 :: u2 :: u3 :: u4 :: u5 :: tv :: u7 :: .pointer (some ⟨p8, 0, none⟩) :: u9 :: u10 :: u11 :: u12 :: u13 :: u14 :: u15 :: u16 :: u17 :: u18 :: u19 :: u20 :: u21 :: u22 :: u23 :: u24 :: u25 :: u26 :: u27 :: u28 :: u29 :: u30 :: u31 :: u32 :: u33 :: u34 :: u35 :: u36 :: u37 :: u38 :: u39 :: u40 :: u41 :: u42 :: u43 :: u44 :: u45 :: u46 :: u47 :: u48 :: u49 :: u50 :: u51 :: u52 :: u53 :: u54 :: u55 :: u56 :: u57 :: u58 :: u59 :: u60 :: u61 :: u62 :: u63 :: u64 :: u65 :: u66 :: u67 :: u68 :: u69 :: u70 :: u71 :: u72 :: u73 :: u74 :: u75 :: u76 :: u77 :: u78 :: u79 :: u80 :: u81 :: u82 :: u83 :: u84 :: u85 :: u86 :: u87 :: u88 :: u89 :: u90 :: u91 :: u92 :: u93 :: u94 :: u95 :: u96 :: u97 :: u98 :: u99 :: u100 :: u101 :: u102 :: u103 :: u104 :: u105 :: u106 :: u107 :: u108 :: u109 :: u110 :: u111 :: u112 :: u113 :: u114 :: u115 :: u116 :: u117 :: u118 :: u119 :: u120 :: u121 :: u122 :: u123 :: u124 :: u125 :: u126 :: u127 :: u128 :: u129 :: u130 :: u131 :: u132 :: u133 :: u134 :: u135 :: u136 :: u137 :: u138 :: u139 :: u140 :: u141 :: u142 :: u143 :: u144 :: u145 :: u146 :: u147 :: u148 :: u149 :: u150 :: u151 :: u152 :: u153 :: u154 :: u155 :: u156 :: u157 :: u158 :: u159 :: u160 :: u161 :: u162 :: u163 :: u164 :: u165 :: u166 :: u167 :: u168 :: u169 :: u170 :: u171 :: u172 :: u173 :: u174 :: u175 :: u176 :: u177 :: u178 :: u179 :: u180 :: u181 :: u182 :: u183 :: []), []⟩ w := by
  have HF := Lib.hid hfin
  have R8 := Lib.hid (show ∀ w', Below w.heap.size w w' → w'.rangeAt p8 0 (TO.cells n ⟨a, b, q0, q1, q2, q3⟩) from fun w' h => range_below h8 h l8)
  have HT := Lib.hid hT
  have HR := Lib.hid hR
  clear hfin h8 l8 hT hR
  conv => arg 2; whnf
  refine wp_region_rel 4 (fun w' => Below w.heap.size w w') (GT (trn T n) n) (by kernel_rfl) (by kernel_rfl) ((Below.refl _ _).drew) ?_
  simp only [List.take_succ_cons, List.take_zero, List.drop_succ_cons, List.drop_zero]
  refine rel_load_row p8 0 (TO.cells n ⟨a, b, q0, q1, q2, q3⟩) _ rfl rfl R8.out Try.underlying67 rfl size67 ?_
  simp only [Act.put, List.setIfInBounds_toArray, List.set_cons_succ, List.set_cons_zero]
  refine rel_move (v := tv) rfl rfl ?_
  simp only [Act.put, List.setIfInBounds_toArray, List.set_cons_succ, List.set_cons_zero]
  refine rel_call (f := 16) (args := #[tv]) rfl (fun w' hw => by go_simp) (fun w' hw => (HT.out w' hw).mono fun e w'' ⟨⟨a, b, q0, q1, q2, q3, he, hr⟩, hb⟩ => ⟨_, he, ⟨fun _ => ⟨a, b, q0, q1, q2, q3, rfl, hr⟩, (fun h => by cases h)⟩, below_trans hw hb⟩) (fun v hv => ?_)
  obtain ⟨a', b', q0', q1', q2', q3', rfl, hr'⟩ := hv.1 rfl
  simp only [Act.put, List.setIfInBounds_toArray, List.set_cons_succ, List.set_cons_zero]
  have HS := Lib.hid (fun w' => same17 w' n ⟨a, b, q0, q1, q2, q3⟩ ⟨a', b', q0', q1', q2', q3'⟩ HR.out.ok hr'.ok (HR.out.turn hr'))
  refine rel_call (f := 17) (args := #[.agg (TO.cells n ⟨a, b, q0, q1, q2, q3⟩).toArray, .agg (TO.cells n ⟨a', b', q0', q1', q2', q3'⟩).toArray]) rfl (fun w' hw => by unfold totV; go_simp; rfl) (fun w' hw => (HS.out w').mono fun e w'' ⟨he, hb⟩ => ⟨_, he, ⟨(fun h => by cases h), fun _ => rfl⟩, below_trans hw hb⟩) (fun v hv => ?_)
  obtain rfl := hv.2 rfl
  simp only [Act.put, List.setIfInBounds_toArray, List.set_cons_succ, List.set_cons_zero]
  refine rel_nil ?_
  intro w' hw
  have HW := Lib.hid hw
  clear hw hr' hv
  go_wp2
  exact HF.out _ _ _ _ w' HW.out
set_option maxRecDepth 100000 in
set_option maxHeartbeats 2000000 in
theorem sreg36 {Q : Exit → Act → World → Prop} (w : World) (g n c gp i k base m : Nat) (vk : Value) (xs : List Value) (t : ITM) (u0 u1 u2 u3 u5 u6 u7 u8 u9 u10 u11 u12 u13 u14 u17 u19 u20 u21 u22 u23 u24 u25 u26 u27 u28 u29 u30 u31 u32 u33 u34 u35 u36 u37 u38 u39 u40 u41 u42 u43 u44 u45 u46 u47 u48 u49 u50 u51 u52 u53 u54 u55 u56 u57 u58 u59 u60 u61 u62 u63 u64 u65 u66 u67 u68 u69 u70 u71 u72 u73 u74 u75 u76 u77 u78 u79 u80 u81 u82 u83 u84 u85 u86 u87 u88 u89 u90 u91 u92 u93 u94 u95 u96 u97 u98 u99 u100 u101 u102 u103 u104 u105 u106 u107 u108 u109 u110 u111 u112 u113 u114 u115 u116 u117 u118 u119 u120 u121 u122 u123 u124 u125 u126 u127 u128 u129 u130 u131 u132 u133 u134 u135 u136 u137 u138 u139 u140 u141 u142 u143 u144 u145 u146 u147 u148 u149 u150 u151 u152 u153 u154 u155 u156 u157 u158 u159 u160 u161 u162 u163 u164 u165 u166 u167 u168 u169 u170 u171 u172 u173 u174 u175 u176 u177 u178 u179 u180 u181 u182 u183 : Value)
    (hr : w.rangeAt g (i * 23) t.cells) (lg : g < w.heap.size) (hin : i < n) (hn : n ≤ 1048576) (ht : t.OK) (hk : k < 3) (ck : w.cell? ⟨gp, k, none⟩ = some vk) (fk : w.frozen? ⟨gp, k, none⟩ = false) (lp : gp < base) (hown : w.ownsRow base 60 23 vk m xs) (hbase : base ≤ w.heap.size) (hm : m ≤ 1048576) (hQ : ∀ c a (t : Tmp) v w, Q (.panic c) (Act.put a (some t) v) w → Q (.panic c) a w)
    (hfin : ∀ (v143 v144 v145 v146 v147 v148 v149 v150 v152 v153 : Value) (v3 : Value) (w1 w3 : World) (g' : Nat), Below w.heap.size w w1 → w3.ownsRow base 60 23 v3 (m + 1) (xs ++ t.cells) → w1.grownBy w3 vk.ownBlock → (v3.ownBlock = vk.ownBlock ∨ v3.ownBlock = some w1.heap.size) → g' < w3.heap.size → Q .normal ⟨List.toArray (u0 :: u1 :: u2 :: u3 :: .slice (some ⟨g, 0, none⟩) n c :: u5 :: u6 :: u7 :: u8 :: u9 :: u10 :: u11 :: u12 :: u13 :: u14 :: .pointer (some ⟨gp, 0, none⟩) :: .int .i64 (i : Int) :: u17 :: .int .i64 (k : Int) :: u19 :: u20 :: u21 :: u22 :: u23 :: u24 :: u25 :: u26 :: u27 :: u28 :: u29 :: u30 :: u31 :: u32 :: u33 :: u34 :: u35 :: u36 :: u37 :: u38 :: u39 :: u40 :: u41 :: u42 :: u43 :: u44 :: u45 :: u46 :: u47 :: u48 :: u49 :: u50 :: u51 :: u52 :: u53 :: u54 :: u55 :: u56 :: u57 :: u58 :: u59 :: u60 :: u61 :: u62 :: u63 :: u64 :: u65 :: u66 :: u67 :: u68 :: u69 :: u70 :: u71 :: u72 :: u73 :: u74 :: u75 :: u76 :: u77 :: u78 :: u79 :: u80 :: u81 :: u82 :: u83 :: u84 :: u85 :: u86 :: u87 :: u88 :: u89 :: u90 :: u91 :: u92 :: u93 :: u94 :: u95 :: u96 :: u97 :: u98 :: u99 :: u100 :: u101 :: u102 :: u103 :: u104 :: u105 :: u106 :: u107 :: u108 :: u109 :: u110 :: u111 :: u112 :: u113 :: u114 :: u115 :: u116 :: u117 :: u118 :: u119 :: u120 :: u121 :: u122 :: u123 :: u124 :: u125 :: u126 :: u127 :: u128 :: u129 :: u130 :: u131 :: u132 :: u133 :: u134 :: u135 :: u136 :: u137 :: u138 :: u139 :: u140 :: u141 :: u142 :: v143 :: v144 :: v145 :: v146 :: v147 :: v148 :: v149 :: v150 :: .slice (some ⟨g', 0, none⟩) 1 1 :: v152 :: v153 :: u154 :: u155 :: u156 :: u157 :: u158 :: u159 :: u160 :: u161 :: u162 :: u163 :: u164 :: u165 :: u166 :: u167 :: u168 :: u169 :: u170 :: u171 :: u172 :: u173 :: u174 :: u175 :: u176 :: u177 :: u178 :: u179 :: u180 :: u181 :: u182 :: u183 :: []), []⟩ (w3.setCell ⟨gp, k, none⟩ v3)) : Code.wp Try.prog (tr5 36) Q ⟨List.toArray (u0 :: u1 :: u2 :: u3 :: .slice (some ⟨g, 0, none⟩) n c :: u5 :: u6 :: u7 :: u8 :: u9 :: u10 :: u11 :: u12 :: u13 :: u14 :: .pointer (some ⟨gp, 0, none⟩) :: .int .i64 (i : Int) :: u17 :: .int .i64 (k : Int) :: u19 :: u20 :: u21 :: u22 :: u23 :: u24 :: u25 :: u26 :: u27 :: u28 :: u29 :: u30 :: u31 :: u32 :: u33 :: u34 :: u35 :: u36 :: u37 :: u38 :: u39 :: u40 :: u41 :: u42 :: u43 :: u44 :: u45 :: u46 :: u47 :: u48 :: u49 :: u50 :: u51 :: u52 :: u53 :: u54 :: u55 :: u56 :: u57 :: u58 :: u59 :: u60 :: u61 :: u62 :: u63 :: u64 :: u65 :: u66 :: u67 :: u68 :: u69 :: u70 :: u71 :: u72 :: u73 :: u74 :: u75 :: u76 :: u77 :: u78 :: u79 :: u80 :: u81 :: u82 :: u83 :: u84 :: u85 :: u86 :: u87 :: u88 :: u89 :: u90 :: u91 :: u92 :: u93 :: u94 :: u95 :: u96 :: u97 :: u98 :: u99 :: u100 :: u101 :: u102 :: u103 :: u104 :: u105 :: u106 :: u107 :: u108 :: u109 :: u110 :: u111 :: u112 :: u113 :: u114 :: u115 :: u116 :: u117 :: u118 :: u119 :: u120 :: u121 :: u122 :: u123 :: u124 :: u125 :: u126 :: u127 :: u128 :: u129 :: u130 :: u131 :: u132 :: u133 :: u134 :: u135 :: u136 :: u137 :: u138 :: u139 :: u140 :: u141 :: u142 :: u143 :: u144 :: u145 :: u146 :: u147 :: u148 :: u149 :: u150 :: u151 :: u152 :: u153 :: u154 :: u155 :: u156 :: u157 :: u158 :: u159 :: u160 :: u161 :: u162 :: u163 :: u164 :: u165 :: u166 :: u167 :: u168 :: u169 :: u170 :: u171 :: u172 :: u173 :: u174 :: u175 :: u176 :: u177 :: u178 :: u179 :: u180 :: u181 :: u182 :: u183 :: []), []⟩ w := by
  obtain ⟨pk, ck0, rfl, hpk⟩ := owned_slice hown
  have HF := Lib.hid hfin
  have LL := Lib.hid (ITM.len ht)
  have O1 := Lib.hid (ITM.one t)
  obtain ⟨w0, hw0⟩ : ∃ w0, w0 = ({ w with drawn := w.drawn + 1 } : World) := ⟨_, rfl⟩
  have hb0 : Below w.heap.size w w0 := by rw [hw0]; exact (Below.refl _ _).drew
  have C0 := Lib.hid ((hb0.cell (p := ⟨gp, k, none⟩) (Nat.lt_of_lt_of_le lp hbase)).trans ck)
  have C1 := Lib.hid (range_below hr hb0 lg)
  have F0 := Lib.hid ((hb0.frozen (p := ⟨gp, k, none⟩) (Nat.lt_of_lt_of_le lp hbase)).trans fk)
  have SZ := Lib.hid (sz60 ht)
  have HO := Lib.hid (show w0.ownsRow base 60 23 (.slice pk m ck0) m xs ∧ base ≤ w0.heap.size from ⟨owned_at hown fun k _ hl => hb0.block k hl, Nat.le_trans hbase hb0.size⟩)
  have HQ := Lib.hid hQ
  have HW0 := Lib.hid hw0
  have HB0 := Lib.hid hb0
  have LP := Lib.hid (show ∀ b, (Value.slice pk m ck0).ownBlock = some b → gp ≠ b from fun b hb e => by have := hpk b hb; omega)
  have GL := Lib.hid (show gp < w0.heap.size from Nat.lt_of_lt_of_le (Nat.lt_of_lt_of_le lp hbase) hb0.size)
  obtain ⟨i6, hi60, hz1, hz2⟩ : ∃ i0, Try.prog.info? 60 = some i0 ∧ i0.size = 23 ∧ i0.bytes = 176 := by
    have h := info60
    cases hx : Try.prog.info? 60 with
    | none => rw [hx] at h; cases h
    | some i0 => rw [hx] at h; simp at h; exact ⟨i0, rfl, h.1, h.2⟩
  obtain ⟨z6, hz0, hz3⟩ : ∃ z, i6.zero = some z ∧ z.cells.size = 23 := by
    have h := zero60
    rw [hi60, Option.bind_some] at h
    cases hx : i6.zero with
    | none => rw [hx] at h; cases h
    | some z => rw [hx] at h; exact ⟨z, rfl, by simpa using h⟩
  have H6 := Lib.hid (And.intro hi60 (And.intro hz0 (And.intro hz1 (And.intro hz2 hz3))))
  have CSZ := Lib.hid (show ((Try.prog.info? 60).map (·.size) = some 23) ∧ (((Try.prog.info? 60).bind (·.zero)).isSome = true) by rw [H6.out.1]; exact ⟨congrArg some H6.out.2.2.1, by rw [Option.bind_some, H6.out.2.1]; rfl⟩)
  have hii : (i : Int) < (n : Int) := by omega
  have hk3 : (k : Int) < 3 := by omega
  clear hfin hr lg hn ht ck fk lp hown hbase hpk hi60 hz0 hz1 hz2 hz3 hin hw0 hb0 hQ
  obtain ⟨tc, htc⟩ : ∃ tc, tc = t.cells := ⟨_, rfl⟩
  rw [← htc] at HF LL O1 C1 SZ
  clear htc
  conv => arg 2; whnf
  refine wp_region_any (by kernel_rfl) ?_
  rw [← HW0.out]
  show wpAny _ _ _ _ 12 (List.toArray [false, false, false, false, false, false, false, false, false, false, false, false]) _ _
  refine wpAny_take (i := 0) (oi := ⟨some 143, .move (.tmp 18), 3, "law.go:267", #[], none⟩) (v := .int .i64 (k : Int)) rfl (by kernel_rfl) (by kernel_rfl) (by kernel_rfl) (fun c a w h => HQ.out c a _ _ w h) (.inl ⟨rfl, fun w => rfl⟩) ?_
  simp only [Act.put, List.setIfInBounds_toArray, List.set_cons_succ, List.set_cons_zero]
  refine wpAny_take (i := 1) (oi := ⟨some 144, .move (.tmp 18), 3, "law.go:267", #[], none⟩) (v := .int .i64 (k : Int)) rfl (by kernel_rfl) (by kernel_rfl) (by kernel_rfl) (fun c a w h => HQ.out c a _ _ w h) (.inl ⟨rfl, fun w => rfl⟩) ?_
  simp only [Act.put, List.setIfInBounds_toArray, List.set_cons_succ, List.set_cons_zero]
  refine wpAny_take (i := 2) (oi := ⟨some 145, .indexAddr 73 (.tmp 15) (.tmp 144), 0, "law.go:267", #[⟨1, .data⟩], none⟩) (v := .pointer (some ⟨gp, k, none⟩)) rfl (by kernel_rfl) (by kernel_rfl) (by kernel_rfl) (fun c a w h => HQ.out c a _ _ w h) (.inl ⟨rfl, fun w => by go_simp⟩) ?_
  simp only [Act.put, List.setIfInBounds_toArray, List.set_cons_succ, List.set_cons_zero]
  refine wpAny_take (i := 4) (oi := ⟨some 147, .move (.tmp 4), 36, "law.go:267", #[], none⟩) (v := .slice (some ⟨g, 0, none⟩) n c) rfl (by kernel_rfl) (by kernel_rfl) (by kernel_rfl) (fun c a w h => HQ.out c a _ _ w h) (.inl ⟨rfl, fun w => rfl⟩) ?_
  simp only [Act.put, List.setIfInBounds_toArray, List.set_cons_succ, List.set_cons_zero]
  refine wpAny_take (i := 5) (oi := ⟨some 148, .move (.tmp 16), 3, "law.go:267", #[], none⟩) (v := .int .i64 (i : Int)) rfl (by kernel_rfl) (by kernel_rfl) (by kernel_rfl) (fun c a w h => HQ.out c a _ _ w h) (.inl ⟨rfl, fun w => rfl⟩) ?_
  simp only [Act.put, List.setIfInBounds_toArray, List.set_cons_succ, List.set_cons_zero]
  refine wpAny_take (i := 6) (oi := ⟨some 149, .indexAddr 36 (.tmp 147) (.tmp 148), 0, "law.go:267", #[⟨4, .data⟩, ⟨5, .data⟩], none⟩) (v := .pointer (some ⟨g, i * 23, none⟩)) rfl (by kernel_rfl) (by kernel_rfl) (by kernel_rfl) (fun c a w h => HQ.out c a _ _ w h) (.inl ⟨rfl, fun w => by go_simp⟩) ?_
  simp only [Act.put, List.setIfInBounds_toArray, List.set_cons_succ, List.set_cons_zero]
  generalize hops : (#[_, _, _, _, _, _, _, _, _, _, _, _] : Array Oper) = ops
  have E3 : ∀ a : Act, a.eval (.tmp 145) = .pointer (some ⟨gp, k, none⟩) → (execOp a.eval ⟨some 146, .load 36 (.tmp 145), 36, "law.go:267", #[⟨2, .data⟩], none⟩).run Try.prog w0 = .ok (.value (.slice pk m ck0)) w0 := fun a ha => by have h := C0.out; unfold execOp; simp only [ha]; go_simp
  have E7 : ∀ a : Act, a.eval (.tmp 149) = .pointer (some ⟨g, i * 23, none⟩) → (execOp a.eval ⟨some 150, .load 60 (.tmp 149), 60, "law.go:267", #[⟨6, .data⟩], none⟩).run Try.prog w0 = .ok (.value (.agg tc.toArray)) w0 := fun a ha => by
    unfold execOp
    simp only [ha, Instr.loadAt, Instr.sureAddr, Sem.run_bind, Sem.run_pure, Result.andThen_ok, run_loadVar_mid w0 g (i * 23) 60 tc _ C1.out Try.underlying60 rfl SZ.out]
  have E8 : ∀ a : Act, a.eval (.tmp 150) = .agg tc.toArray → (execOp a.eval ⟨some 151, .buildSlice 36 1 #[(0, .tmp 150)], 36, "law.go:267", #[⟨7, .data⟩], none⟩).run Try.prog w0 = .ok (.value (.slice (some ⟨w0.heap.size, 0, none⟩) 1 1)) (w0.alloc (.cells tc.toArray 60)) := fun a ha => by
    unfold execOp
    have e1 : (#[(0, .tmp 150)] : Array (Nat × Operand)).map (fun (i, x) => (i, a.eval x)) = #[(0, .agg tc.toArray)] := by simp [ha]
    simp only [e1, Sem.run_bind, RB.RT.run_slice1 w0 36 60 23 tc.toArray Try.underlying36 CSZ.out.1 CSZ.out.2 (by rw [List.size_toArray]; exact LL.out) (by decide) (by decide), Result.andThen_ok]
    rfl
  have o3 : ops[3]? = some ⟨some 146, .load 36 (.tmp 145), 36, "law.go:267", #[⟨2, .data⟩], none⟩ := by rw [← hops]; rfl
  have o7 : ops[7]? = some ⟨some 150, .load 60 (.tmp 149), 60, "law.go:267", #[⟨6, .data⟩], none⟩ := by rw [← hops]; rfl
  have o8 : ops[8]? = some ⟨some 151, .buildSlice 36 1 #[(0, .tmp 150)], 36, "law.go:267", #[⟨7, .data⟩], none⟩ := by rw [← hops]; rfl
  have r0 : Region.ready .any ops (List.toArray [true, true, true, false, true, true, true, false, false, false, false, false]) = [3, 7] := by rw [← hops]; kernel_rfl
  have r3 : Region.ready .any ops (List.toArray [true, true, true, true, true, true, true, false, false, false, false, false]) = [7] := by rw [← hops]; kernel_rfl
  have r7 : Region.ready .any ops (List.toArray [true, true, true, false, true, true, true, true, false, false, false, false]) = [3, 8] := by rw [← hops]; kernel_rfl
  have r37 : Region.ready .any ops (List.toArray [true, true, true, true, true, true, true, true, false, false, false, false]) = [8] := by rw [← hops]; kernel_rfl
  have r78 : Region.ready .any ops (List.toArray [true, true, true, false, true, true, true, true, true, false, false, false]) = [3] := by rw [← hops]; kernel_rfl
  have EA : ∀ a : Act, a.eval (.tmp 145) = .pointer (some ⟨gp, k, none⟩) → (execOp a.eval ⟨some 146, .load 36 (.tmp 145), 36, "law.go:267", #[⟨2, .data⟩], none⟩).run Try.prog (w0.alloc (.cells tc.toArray 60)) = .ok (.value (.slice pk m ck0)) (w0.alloc (.cells tc.toArray 60)) := fun a ha => by
    have h : (w0.alloc (.cells tc.toArray 60)).cell? ⟨gp, k, none⟩ = some (.slice pk m ck0) := (((Below.refl w0.heap.size w0).alloc (Nat.le_refl _) _).cell (p := ⟨gp, k, none⟩) GL.out).trans C0.out
    unfold execOp; simp only [ha]; go_simp
  have fin : wpAny Try.prog .any ops Q 3 (List.toArray [true, true, true, true, true, true, true, true, true, false, false, false]) ⟨List.toArray (u0 :: u1 :: u2 :: u3 :: .slice (some ⟨g, 0, none⟩) n c :: u5 :: u6 :: u7 :: u8 :: u9 :: u10 :: u11 :: u12 :: u13 :: u14 :: .pointer (some ⟨gp, 0, none⟩) :: .int .i64 (i : Int) :: u17 :: .int .i64 (k : Int) :: u19 :: u20 :: u21 :: u22 :: u23 :: u24 :: u25 :: u26 :: u27 :: u28 :: u29 :: u30 :: u31 :: u32 :: u33 :: u34 :: u35 :: u36 :: u37 :: u38 :: u39 :: u40 :: u41 :: u42 :: u43 :: u44 :: u45 :: u46 :: u47 :: u48 :: u49 :: u50 :: u51 :: u52 :: u53 :: u54 :: u55 :: u56 :: u57 :: u58 :: u59 :: u60 :: u61 :: u62 :: u63 :: u64 :: u65 :: u66 :: u67 :: u68 :: u69 :: u70 :: u71 :: u72 :: u73 :: u74 :: u75 :: u76 :: u77 :: u78 :: u79 :: u80 :: u81 :: u82 :: u83 :: u84 :: u85 :: u86 :: u87 :: u88 :: u89 :: u90 :: u91 :: u92 :: u93 :: u94 :: u95 :: u96 :: u97 :: u98 :: u99 :: u100 :: u101 :: u102 :: u103 :: u104 :: u105 :: u106 :: u107 :: u108 :: u109 :: u110 :: u111 :: u112 :: u113 :: u114 :: u115 :: u116 :: u117 :: u118 :: u119 :: u120 :: u121 :: u122 :: u123 :: u124 :: u125 :: u126 :: u127 :: u128 :: u129 :: u130 :: u131 :: u132 :: u133 :: u134 :: u135 :: u136 :: u137 :: u138 :: u139 :: u140 :: u141 :: u142 :: .int .i64 (k : Int) :: .int .i64 (k : Int) :: .pointer (some ⟨gp, k, none⟩) :: .slice pk m ck0 :: .slice (some ⟨g, 0, none⟩) n c :: .int .i64 (i : Int) :: .pointer (some ⟨g, i * 23, none⟩) :: .agg tc.toArray :: .slice (some ⟨w0.heap.size, 0, none⟩) 1 1 :: u152 :: u153 :: u154 :: u155 :: u156 :: u157 :: u158 :: u159 :: u160 :: u161 :: u162 :: u163 :: u164 :: u165 :: u166 :: u167 :: u168 :: u169 :: u170 :: u171 :: u172 :: u173 :: u174 :: u175 :: u176 :: u177 :: u178 :: u179 :: u180 :: u181 :: u182 :: u183 :: []), []⟩ (w0.alloc (.cells tc.toArray 60)) := by
    have hs := wpAny_of_seq (P := Try.prog) (md := .any) (ops := ops) (Q' := Q) (ops.toList.drop 9) 9 (List.toArray [true, true, true, true, true, true, true, true, true, false, false, false]) ⟨List.toArray (u0 :: u1 :: u2 :: u3 :: .slice (some ⟨g, 0, none⟩) n c :: u5 :: u6 :: u7 :: u8 :: u9 :: u10 :: u11 :: u12 :: u13 :: u14 :: .pointer (some ⟨gp, 0, none⟩) :: .int .i64 (i : Int) :: u17 :: .int .i64 (k : Int) :: u19 :: u20 :: u21 :: u22 :: u23 :: u24 :: u25 :: u26 :: u27 :: u28 :: u29 :: u30 :: u31 :: u32 :: u33 :: u34 :: u35 :: u36 :: u37 :: u38 :: u39 :: u40 :: u41 :: u42 :: u43 :: u44 :: u45 :: u46 :: u47 :: u48 :: u49 :: u50 :: u51 :: u52 :: u53 :: u54 :: u55 :: u56 :: u57 :: u58 :: u59 :: u60 :: u61 :: u62 :: u63 :: u64 :: u65 :: u66 :: u67 :: u68 :: u69 :: u70 :: u71 :: u72 :: u73 :: u74 :: u75 :: u76 :: u77 :: u78 :: u79 :: u80 :: u81 :: u82 :: u83 :: u84 :: u85 :: u86 :: u87 :: u88 :: u89 :: u90 :: u91 :: u92 :: u93 :: u94 :: u95 :: u96 :: u97 :: u98 :: u99 :: u100 :: u101 :: u102 :: u103 :: u104 :: u105 :: u106 :: u107 :: u108 :: u109 :: u110 :: u111 :: u112 :: u113 :: u114 :: u115 :: u116 :: u117 :: u118 :: u119 :: u120 :: u121 :: u122 :: u123 :: u124 :: u125 :: u126 :: u127 :: u128 :: u129 :: u130 :: u131 :: u132 :: u133 :: u134 :: u135 :: u136 :: u137 :: u138 :: u139 :: u140 :: u141 :: u142 :: .int .i64 (k : Int) :: .int .i64 (k : Int) :: .pointer (some ⟨gp, k, none⟩) :: .slice pk m ck0 :: .slice (some ⟨g, 0, none⟩) n c :: .int .i64 (i : Int) :: .pointer (some ⟨g, i * 23, none⟩) :: .agg tc.toArray :: .slice (some ⟨w0.heap.size, 0, none⟩) 1 1 :: u152 :: u153 :: u154 :: u155 :: u156 :: u157 :: u158 :: u159 :: u160 :: u161 :: u162 :: u163 :: u164 :: u165 :: u166 :: u167 :: u168 :: u169 :: u170 :: u171 :: u172 :: u173 :: u174 :: u175 :: u176 :: u177 :: u178 :: u179 :: u180 :: u181 :: u182 :: u183 :: []), []⟩ (w0.alloc (.cells tc.toArray 60)) (fun j => by simp [List.getElem?_drop]) (by rw [← hops]; kernel_rfl)
    rw [show (ops.toList.drop 9).length = 3 from by rw [← hops]; rfl] at hs
    refine hs ?_
    clear hs E3 E7 E8 EA o3 o7 o8 r0 r3 r7 r37 r78
    rw [← hops]
    clear hops
    simp only [List.drop_succ_cons, List.drop_zero]
    have w1c := Lib.hid (And.intro ((((Below.refl w0.heap.size w0).alloc (Nat.le_refl _) (.cells tc.toArray 60)).cell (p := ⟨gp, k, none⟩) GL.out).trans C0.out) ((((Below.refl w0.heap.size w0).alloc (Nat.le_refl _) (.cells tc.toArray 60)).frozen (p := ⟨gp, k, none⟩) GL.out).trans F0.out))
    have OA := Lib.hid (HO.out.1.alloc (.cells tc.toArray 60))
    have NC := Lib.hid (show ∀ j u, tc[j]? = some u → (w0.alloc (.cells tc.toArray 60)).cell? ((⟨w0.heap.size, 0, none⟩ : Addr).add j) = some u from fun j u hj => by rw [Addr.add_lit]; exact range_new w0 tc 60 j u hj)
    have B1 := Lib.hid (show Below w.heap.size w (w0.alloc (.cells tc.toArray 60)) from HB0.out.alloc HB0.out.size _)
    have S1 := Lib.hid (show (w0.alloc (.cells tc.toArray 60)).heap.size = w0.heap.size + 1 by simp)
    generalize (w0.alloc (.cells tc.toArray 60)) = w1 at *
    generalize w0.heap.size = gg at *
    go_wp2_with (at_builtin; refine wpList_append_strong rfl _ _ 36 rfl base 60 i6 z6 23 176 Try.underlying36 H6.out.1 H6.out.2.1 H6.out.2.2.1 H6.out.2.2.2.1 H6.out.2.2.2.2 (by decide) _ _ _ rfl OA.out ⟨gg, 0, none⟩ 1 1 tc rfl ?c0 NC.out ?c2 ?c3 ?c4 ?c5 (by decide) ?_)
    case c0 => rw [LL.out]
    case c2 => exact O1.out
    case c3 => unfold maxLen; omega
    case c4 => omega
    case c5 => rw [S1.out]; have := HO.out.2; omega
    intro v3 w3 hown3 hgrow hblk
    obtain ⟨p3, c3, rfl, -⟩ := owned_slice hown3
    have H3 := Lib.hid (And.intro hown3 (And.intro hgrow (show (Value.slice p3 (m + 1) c3).ownBlock = (Value.slice pk m ck0).ownBlock ∨ (Value.slice p3 (m + 1) c3).ownBlock = some w1.heap.size from hblk.imp_right fun h => h.1)))
    have HLT := Lib.hid (show gg < w3.heap.size by have := hgrow.size; rw [S1.out] at this; omega)
    have gpl : gp < w1.heap.size := by rw [S1.out]; have := GL.out; omega
    have cc : w3.cell? ⟨gp, k, none⟩ = some (.slice pk m ck0) := (World.cell?_of_block (w := w1) (a := ⟨gp, k, none⟩) (hgrow.block gp gpl (fun e => LP.out gp e.symm rfl))).trans w1c.out.1
    have ff : w3.frozen? ⟨gp, k, none⟩ = false := (World.frozen?_of_block (w := w1) (a := ⟨gp, k, none⟩) (hgrow.block gp gpl (fun e => LP.out gp e.symm rfl))).trans w1c.out.2
    clear hown3 hgrow hblk gpl
    go_wp2
    exact HF.out _ _ _ _ _ _ _ _ _ _ (.slice p3 (m + 1) c3) w1 w3 gg B1.out H3.out.1 H3.out.2.1 H3.out.2.2 HLT.out
  have s37 : wpAny Try.prog .any ops Q 4 (List.toArray [true, true, true, true, true, true, true, true, false, false, false, false]) ⟨List.toArray (u0 :: u1 :: u2 :: u3 :: .slice (some ⟨g, 0, none⟩) n c :: u5 :: u6 :: u7 :: u8 :: u9 :: u10 :: u11 :: u12 :: u13 :: u14 :: .pointer (some ⟨gp, 0, none⟩) :: .int .i64 (i : Int) :: u17 :: .int .i64 (k : Int) :: u19 :: u20 :: u21 :: u22 :: u23 :: u24 :: u25 :: u26 :: u27 :: u28 :: u29 :: u30 :: u31 :: u32 :: u33 :: u34 :: u35 :: u36 :: u37 :: u38 :: u39 :: u40 :: u41 :: u42 :: u43 :: u44 :: u45 :: u46 :: u47 :: u48 :: u49 :: u50 :: u51 :: u52 :: u53 :: u54 :: u55 :: u56 :: u57 :: u58 :: u59 :: u60 :: u61 :: u62 :: u63 :: u64 :: u65 :: u66 :: u67 :: u68 :: u69 :: u70 :: u71 :: u72 :: u73 :: u74 :: u75 :: u76 :: u77 :: u78 :: u79 :: u80 :: u81 :: u82 :: u83 :: u84 :: u85 :: u86 :: u87 :: u88 :: u89 :: u90 :: u91 :: u92 :: u93 :: u94 :: u95 :: u96 :: u97 :: u98 :: u99 :: u100 :: u101 :: u102 :: u103 :: u104 :: u105 :: u106 :: u107 :: u108 :: u109 :: u110 :: u111 :: u112 :: u113 :: u114 :: u115 :: u116 :: u117 :: u118 :: u119 :: u120 :: u121 :: u122 :: u123 :: u124 :: u125 :: u126 :: u127 :: u128 :: u129 :: u130 :: u131 :: u132 :: u133 :: u134 :: u135 :: u136 :: u137 :: u138 :: u139 :: u140 :: u141 :: u142 :: .int .i64 (k : Int) :: .int .i64 (k : Int) :: .pointer (some ⟨gp, k, none⟩) :: .slice pk m ck0 :: .slice (some ⟨g, 0, none⟩) n c :: .int .i64 (i : Int) :: .pointer (some ⟨g, i * 23, none⟩) :: .agg tc.toArray :: u151 :: u152 :: u153 :: u154 :: u155 :: u156 :: u157 :: u158 :: u159 :: u160 :: u161 :: u162 :: u163 :: u164 :: u165 :: u166 :: u167 :: u168 :: u169 :: u170 :: u171 :: u172 :: u173 :: u174 :: u175 :: u176 :: u177 :: u178 :: u179 :: u180 :: u181 :: u182 :: u183 :: []), []⟩ w0 := wpAny_all r37 (by decide) fun j hj => by
    obtain rfl := List.mem_singleton.1 hj
    refine wpOp_val ⟨some 151, .buildSlice 36 1 #[(0, .tmp 150)], 36, "law.go:267", #[⟨7, .data⟩], none⟩ (.slice (some ⟨w0.heap.size, 0, none⟩) 1 1) (w0.alloc (.cells tc.toArray 60)) o8 rfl (E8 _ rfl) ?_
    simp only [Act.put, List.setIfInBounds_toArray, List.set_cons_succ, List.set_cons_zero]
    exact fin
  have s78 : wpAny Try.prog .any ops Q 4 (List.toArray [true, true, true, false, true, true, true, true, true, false, false, false]) ⟨List.toArray (u0 :: u1 :: u2 :: u3 :: .slice (some ⟨g, 0, none⟩) n c :: u5 :: u6 :: u7 :: u8 :: u9 :: u10 :: u11 :: u12 :: u13 :: u14 :: .pointer (some ⟨gp, 0, none⟩) :: .int .i64 (i : Int) :: u17 :: .int .i64 (k : Int) :: u19 :: u20 :: u21 :: u22 :: u23 :: u24 :: u25 :: u26 :: u27 :: u28 :: u29 :: u30 :: u31 :: u32 :: u33 :: u34 :: u35 :: u36 :: u37 :: u38 :: u39 :: u40 :: u41 :: u42 :: u43 :: u44 :: u45 :: u46 :: u47 :: u48 :: u49 :: u50 :: u51 :: u52 :: u53 :: u54 :: u55 :: u56 :: u57 :: u58 :: u59 :: u60 :: u61 :: u62 :: u63 :: u64 :: u65 :: u66 :: u67 :: u68 :: u69 :: u70 :: u71 :: u72 :: u73 :: u74 :: u75 :: u76 :: u77 :: u78 :: u79 :: u80 :: u81 :: u82 :: u83 :: u84 :: u85 :: u86 :: u87 :: u88 :: u89 :: u90 :: u91 :: u92 :: u93 :: u94 :: u95 :: u96 :: u97 :: u98 :: u99 :: u100 :: u101 :: u102 :: u103 :: u104 :: u105 :: u106 :: u107 :: u108 :: u109 :: u110 :: u111 :: u112 :: u113 :: u114 :: u115 :: u116 :: u117 :: u118 :: u119 :: u120 :: u121 :: u122 :: u123 :: u124 :: u125 :: u126 :: u127 :: u128 :: u129 :: u130 :: u131 :: u132 :: u133 :: u134 :: u135 :: u136 :: u137 :: u138 :: u139 :: u140 :: u141 :: u142 :: .int .i64 (k : Int) :: .int .i64 (k : Int) :: .pointer (some ⟨gp, k, none⟩) :: u146 :: .slice (some ⟨g, 0, none⟩) n c :: .int .i64 (i : Int) :: .pointer (some ⟨g, i * 23, none⟩) :: .agg tc.toArray :: .slice (some ⟨w0.heap.size, 0, none⟩) 1 1 :: u152 :: u153 :: u154 :: u155 :: u156 :: u157 :: u158 :: u159 :: u160 :: u161 :: u162 :: u163 :: u164 :: u165 :: u166 :: u167 :: u168 :: u169 :: u170 :: u171 :: u172 :: u173 :: u174 :: u175 :: u176 :: u177 :: u178 :: u179 :: u180 :: u181 :: u182 :: u183 :: []), []⟩ (w0.alloc (.cells tc.toArray 60)) := wpAny_all r78 (by decide) fun j hj => by
    obtain rfl := List.mem_singleton.1 hj
    refine wpOp_val ⟨some 146, .load 36 (.tmp 145), 36, "law.go:267", #[⟨2, .data⟩], none⟩ (.slice pk m ck0) (w0.alloc (.cells tc.toArray 60)) o3 rfl (EA _ rfl) ?_
    simp only [Act.put, List.setIfInBounds_toArray, List.set_cons_succ, List.set_cons_zero]
    exact fin
  have s3 : wpAny Try.prog .any ops Q 5 (List.toArray [true, true, true, true, true, true, true, false, false, false, false, false]) ⟨List.toArray (u0 :: u1 :: u2 :: u3 :: .slice (some ⟨g, 0, none⟩) n c :: u5 :: u6 :: u7 :: u8 :: u9 :: u10 :: u11 :: u12 :: u13 :: u14 :: .pointer (some ⟨gp, 0, none⟩) :: .int .i64 (i : Int) :: u17 :: .int .i64 (k : Int) :: u19 :: u20 :: u21 :: u22 :: u23 :: u24 :: u25 :: u26 :: u27 :: u28 :: u29 :: u30 :: u31 :: u32 :: u33 :: u34 :: u35 :: u36 :: u37 :: u38 :: u39 :: u40 :: u41 :: u42 :: u43 :: u44 :: u45 :: u46 :: u47 :: u48 :: u49 :: u50 :: u51 :: u52 :: u53 :: u54 :: u55 :: u56 :: u57 :: u58 :: u59 :: u60 :: u61 :: u62 :: u63 :: u64 :: u65 :: u66 :: u67 :: u68 :: u69 :: u70 :: u71 :: u72 :: u73 :: u74 :: u75 :: u76 :: u77 :: u78 :: u79 :: u80 :: u81 :: u82 :: u83 :: u84 :: u85 :: u86 :: u87 :: u88 :: u89 :: u90 :: u91 :: u92 :: u93 :: u94 :: u95 :: u96 :: u97 :: u98 :: u99 :: u100 :: u101 :: u102 :: u103 :: u104 :: u105 :: u106 :: u107 :: u108 :: u109 :: u110 :: u111 :: u112 :: u113 :: u114 :: u115 :: u116 :: u117 :: u118 :: u119 :: u120 :: u121 :: u122 :: u123 :: u124 :: u125 :: u126 :: u127 :: u128 :: u129 :: u130 :: u131 :: u132 :: u133 :: u134 :: u135 :: u136 :: u137 :: u138 :: u139 :: u140 :: u141 :: u142 :: .int .i64 (k : Int) :: .int .i64 (k : Int) :: .pointer (some ⟨gp, k, none⟩) :: .slice pk m ck0 :: .slice (some ⟨g, 0, none⟩) n c :: .int .i64 (i : Int) :: .pointer (some ⟨g, i * 23, none⟩) :: u150 :: u151 :: u152 :: u153 :: u154 :: u155 :: u156 :: u157 :: u158 :: u159 :: u160 :: u161 :: u162 :: u163 :: u164 :: u165 :: u166 :: u167 :: u168 :: u169 :: u170 :: u171 :: u172 :: u173 :: u174 :: u175 :: u176 :: u177 :: u178 :: u179 :: u180 :: u181 :: u182 :: u183 :: []), []⟩ w0 := wpAny_all r3 (by decide) fun j hj => by
    obtain rfl := List.mem_singleton.1 hj
    refine wpOp_val ⟨some 150, .load 60 (.tmp 149), 60, "law.go:267", #[⟨6, .data⟩], none⟩ (.agg tc.toArray) w0 o7 rfl (E7 _ rfl) ?_
    simp only [Act.put, List.setIfInBounds_toArray, List.set_cons_succ, List.set_cons_zero]
    exact s37
  have s7 : wpAny Try.prog .any ops Q 5 (List.toArray [true, true, true, false, true, true, true, true, false, false, false, false]) ⟨List.toArray (u0 :: u1 :: u2 :: u3 :: .slice (some ⟨g, 0, none⟩) n c :: u5 :: u6 :: u7 :: u8 :: u9 :: u10 :: u11 :: u12 :: u13 :: u14 :: .pointer (some ⟨gp, 0, none⟩) :: .int .i64 (i : Int) :: u17 :: .int .i64 (k : Int) :: u19 :: u20 :: u21 :: u22 :: u23 :: u24 :: u25 :: u26 :: u27 :: u28 :: u29 :: u30 :: u31 :: u32 :: u33 :: u34 :: u35 :: u36 :: u37 :: u38 :: u39 :: u40 :: u41 :: u42 :: u43 :: u44 :: u45 :: u46 :: u47 :: u48 :: u49 :: u50 :: u51 :: u52 :: u53 :: u54 :: u55 :: u56 :: u57 :: u58 :: u59 :: u60 :: u61 :: u62 :: u63 :: u64 :: u65 :: u66 :: u67 :: u68 :: u69 :: u70 :: u71 :: u72 :: u73 :: u74 :: u75 :: u76 :: u77 :: u78 :: u79 :: u80 :: u81 :: u82 :: u83 :: u84 :: u85 :: u86 :: u87 :: u88 :: u89 :: u90 :: u91 :: u92 :: u93 :: u94 :: u95 :: u96 :: u97 :: u98 :: u99 :: u100 :: u101 :: u102 :: u103 :: u104 :: u105 :: u106 :: u107 :: u108 :: u109 :: u110 :: u111 :: u112 :: u113 :: u114 :: u115 :: u116 :: u117 :: u118 :: u119 :: u120 :: u121 :: u122 :: u123 :: u124 :: u125 :: u126 :: u127 :: u128 :: u129 :: u130 :: u131 :: u132 :: u133 :: u134 :: u135 :: u136 :: u137 :: u138 :: u139 :: u140 :: u141 :: u142 :: .int .i64 (k : Int) :: .int .i64 (k : Int) :: .pointer (some ⟨gp, k, none⟩) :: u146 :: .slice (some ⟨g, 0, none⟩) n c :: .int .i64 (i : Int) :: .pointer (some ⟨g, i * 23, none⟩) :: .agg tc.toArray :: u151 :: u152 :: u153 :: u154 :: u155 :: u156 :: u157 :: u158 :: u159 :: u160 :: u161 :: u162 :: u163 :: u164 :: u165 :: u166 :: u167 :: u168 :: u169 :: u170 :: u171 :: u172 :: u173 :: u174 :: u175 :: u176 :: u177 :: u178 :: u179 :: u180 :: u181 :: u182 :: u183 :: []), []⟩ w0 := wpAny_all r7 (by decide) fun j hj => by
    rcases List.mem_cons.1 hj with rfl | hj
    · refine wpOp_val ⟨some 146, .load 36 (.tmp 145), 36, "law.go:267", #[⟨2, .data⟩], none⟩ (.slice pk m ck0) w0 o3 rfl (E3 _ rfl) ?_
      simp only [Act.put, List.setIfInBounds_toArray, List.set_cons_succ, List.set_cons_zero]
      exact s37
    · obtain rfl := List.mem_singleton.1 hj
      refine wpOp_val ⟨some 151, .buildSlice 36 1 #[(0, .tmp 150)], 36, "law.go:267", #[⟨7, .data⟩], none⟩ (.slice (some ⟨w0.heap.size, 0, none⟩) 1 1) (w0.alloc (.cells tc.toArray 60)) o8 rfl (E8 _ rfl) ?_
      simp only [Act.put, List.setIfInBounds_toArray, List.set_cons_succ, List.set_cons_zero]
      exact s78
  refine wpAny_all r0 (by decide) fun j hj => ?_
  rcases List.mem_cons.1 hj with rfl | hj
  · refine wpOp_val ⟨some 146, .load 36 (.tmp 145), 36, "law.go:267", #[⟨2, .data⟩], none⟩ (.slice pk m ck0) w0 o3 rfl (E3 _ rfl) ?_
    simp only [Act.put, List.setIfInBounds_toArray, List.set_cons_succ, List.set_cons_zero]
    exact s3
  · obtain rfl := List.mem_singleton.1 hj
    refine wpOp_val ⟨some 150, .load 60 (.tmp 149), 60, "law.go:267", #[⟨6, .data⟩], none⟩ (.agg tc.toArray) w0 o7 rfl (E7 _ rfl) ?_
    simp only [Act.put, List.setIfInBounds_toArray, List.set_cons_succ, List.set_cons_zero]
    exact s7
/-- what Value and Same may answer -/
def GV (a3 a4 : Nat) (A B : Int) (f : FuncId) (args : Array Value) (v : Value) : Prop := (f = 22 → v = .bool true) ∧ (f = 23 → TG a3 a4 A B f args v)
set_option maxRecDepth 100000 in
set_option maxHeartbeats 2000000 in
theorem sreg43 {Q : Exit → Act → World → Prop} (w : World) (n p8 a3 a4 a b q0 q1 q2 q3 : Nat) (s3 s4 : AS) (u0 u1 u2 u3 u4 u5 u6 u7 u9 u10 u11 u12 u15 u16 u17 u18 u20 u21 u22 u23 u24 u25 u26 u27 u28 u29 u30 u31 u32 u33 u34 u35 u36 u37 u38 u39 u40 u41 u42 u43 u44 u45 u46 u47 u48 u49 u50 u51 u52 u53 u54 u55 u56 u57 u58 u59 u60 u61 u62 u63 u64 u65 u66 u67 u68 u69 u70 u71 u72 u73 u74 u75 u76 u77 u78 u79 u80 u81 u82 u83 u84 u85 u86 u87 u88 u89 u90 u91 u92 u93 u94 u95 u96 u97 u98 u99 u100 u101 u102 u103 u104 u105 u106 u107 u108 u109 u110 u111 u112 u113 u114 u115 u116 u117 u118 u119 u120 u121 u122 u123 u124 u125 u126 u127 u128 u129 u130 u131 u132 u133 u134 u135 u136 u137 u138 u139 u140 u141 u142 u143 u144 u145 u146 u147 u148 u149 u150 u151 u152 u153 u154 u155 u156 u157 u158 u159 u160 u161 u162 u163 u164 u165 u166 u167 u168 u169 u170 u171 u172 u173 u174 u175 u176 u177 u178 u179 u180 u181 u182 u183 : Value) (h8 : w.rangeAt p8 0 (TO.cells n ⟨a, b, q0, q1, q2, q3⟩)) (l8 : p8 < w.heap.size) (h3 : AccAt w a3 s3) (h4 : AccAt w a4 s4) (l3 : a3 < w.heap.size) (l4 : a4 < w.heap.size) (ne : a3 ≠ a4) (z3 : -B2559 < s3.z ∧ s3.z < B2559) (z4 : -B2559 < s4.z ∧ s4.z < B2559)
    (ha : RV a (pV s3)) (hb : RV b (pV s4))
    (hfin : ∀ (v166 v167 v168 v169 v170 v171 v172 v173 v174 v175 v176 v177 v178 v179 v180 v181 v182 v183 : Value) (w' : World), Below w.heap.size w w' → Q .normal ⟨List.toArray (u0 :: u1 :: .bool true :: u3 :: u4 :: u5 :: u6 :: u7 :: .pointer (some ⟨p8, 0, none⟩) :: u9 :: u10 :: u11 :: u12 :: .pointer (some ⟨a3, 0, none⟩) :: .pointer (some ⟨a4, 0, none⟩) :: u15 :: u16 :: u17 :: u18 :: .int .i64 (n : Int) :: u20 :: u21 :: u22 :: u23 :: u24 :: u25 :: u26 :: u27 :: u28 :: u29 :: u30 :: u31 :: u32 :: u33 :: u34 :: u35 :: u36 :: u37 :: u38 :: u39 :: u40 :: u41 :: u42 :: u43 :: u44 :: u45 :: u46 :: u47 :: u48 :: u49 :: u50 :: u51 :: u52 :: u53 :: u54 :: u55 :: u56 :: u57 :: u58 :: u59 :: u60 :: u61 :: u62 :: u63 :: u64 :: u65 :: u66 :: u67 :: u68 :: u69 :: u70 :: u71 :: u72 :: u73 :: u74 :: u75 :: u76 :: u77 :: u78 :: u79 :: u80 :: u81 :: u82 :: u83 :: u84 :: u85 :: u86 :: u87 :: u88 :: u89 :: u90 :: u91 :: u92 :: u93 :: u94 :: u95 :: u96 :: u97 :: u98 :: u99 :: u100 :: u101 :: u102 :: u103 :: u104 :: u105 :: u106 :: u107 :: u108 :: u109 :: u110 :: u111 :: u112 :: u113 :: u114 :: u115 :: u116 :: u117 :: u118 :: u119 :: u120 :: u121 :: u122 :: u123 :: u124 :: u125 :: u126 :: u127 :: u128 :: u129 :: u130 :: u131 :: u132 :: u133 :: u134 :: u135 :: u136 :: u137 :: u138 :: u139 :: u140 :: u141 :: u142 :: u143 :: u144 :: u145 :: u146 :: u147 :: u148 :: u149 :: u150 :: u151 :: u152 :: u153 :: u154 :: u155 :: u156 :: u157 :: u158 :: u159 :: u160 :: u161 :: u162 :: u163 :: u164 :: u165 :: v166 :: v167 :: v168 :: v169 :: v170 :: v171 :: v172 :: v173 :: v174 :: v175 :: v176 :: v177 :: v178 :: v179 :: v180 :: v181 :: v182 :: v183 :: []), []⟩ w') : Code.wp Try.prog (tr5 43) Q ⟨List.toArray (u0 :: u1 :: u2 :: u3 :: u4 :: u5 :: u6 :: u7 :: .pointer (some ⟨p8, 0, none⟩) :: u9 :: u10 :: u11 :: u12 :: .pointer (some ⟨a3, 0, none⟩) :: .pointer (some ⟨a4, 0, none⟩) :: u15 :: u16 :: u17 :: u18 :: .int .i64 (n : Int) :: u20 :: u21 :: u22 :: u23 :: u24 :: u25 :: u26 :: u27 :: u28 :: u29 :: u30 :: u31 :: u32 :: u33 :: u34 :: u35 :: u36 :: u37 :: u38 :: u39 :: u40 :: u41 :: u42 :: u43 :: u44 :: u45 :: u46 :: u47 :: u48 :: u49 :: u50 :: u51 :: u52 :: u53 :: u54 :: u55 :: u56 :: u57 :: u58 :: u59 :: u60 :: u61 :: u62 :: u63 :: u64 :: u65 :: u66 :: u67 :: u68 :: u69 :: u70 :: u71 :: u72 :: u73 :: u74 :: u75 :: u76 :: u77 :: u78 :: u79 :: u80 :: u81 :: u82 :: u83 :: u84 :: u85 :: u86 :: u87 :: u88 :: u89 :: u90 :: u91 :: u92 :: u93 :: u94 :: u95 :: u96 :: u97 :: u98 :: u99 :: u100 :: u101 :: u102 :: u103 :: u104 :: u105 :: u106 :: u107 :: u108 :: u109 :: u110 :: u111 :: u112 :: u113 :: u114 :: u115 :: u116 :: u117 :: u118 :: u119 :: u120 :: u121 :: u122 :: u123 :: u124 :: u125 :: u126 :: u127 :: u128 :: u129 :: u130 :: u131 :: u132 :: u133 :: u134 :: u135 :: u136 :: u137 :: u138 :: u139 :: u140 :: u141 :: u142 :: u143 :: u144 :: u145 :: u146 :: u147 :: u148 :: u149 :: u150 :: u151 :: u152 :: u153 :: u154 :: u155 :: u156 :: u157 :: u158 :: u159 :: u160 :: u161 :: u162 :: u163 :: u164 :: u165 :: u166 :: u167 :: u168 :: u169 :: u170 :: u171 :: u172 :: u173 :: u174 :: u175 :: u176 :: u177 :: u178 :: u179 :: u180 :: u181 :: u182 :: u183 :: []), []⟩ w := by
  have HF := Lib.hid hfin
  have R0 := Lib.hid (show ∀ w', Below w.heap.size w w' → w'.cell? ⟨p8, 0, none⟩ = some (.int .i64 (n : Int)) from fun w' h => range_below h8 h l8 0 _ rfl)
  have R1 := Lib.hid (show ∀ w', Below w.heap.size w w' → w'.cell? ⟨p8, 0 + 1, none⟩ = some (.float .f64 a) from fun w' h => range_below h8 h l8 1 _ rfl)
  have R2 := Lib.hid (show ∀ w', Below w.heap.size w w' → w'.cell? ⟨p8, 0 + 2, none⟩ = some (.float .f64 b) from fun w' h => range_below h8 h l8 2 _ rfl)
  have K3 := Lib.hid (show ∀ w', Below w.heap.size w w' → Calls Try.prog 23 #[.pointer (some ⟨a3, 0, none⟩)] w' fun e w'' => ∃ v, e = .returned v ∧ GV a3 a4 (pV s3) (pV s4) 23 #[.pointer (some ⟨a3, 0, none⟩)] v ∧ Below w.heap.size w w'' from fun w' hb =>
    (c39 a3 s3 w' (h3.below hb l3) (Nat.lt_of_lt_of_le l3 hb.size) z3.1 z3.2).mono fun e w'' ⟨⟨r, he, h1, h2⟩, hb2⟩ => ⟨_, he, ⟨(fun h => by cases h), fun _ => ⟨r, rfl, fun _ => ⟨h1, h2⟩, fun e => by injection e with e; injection e with e; injection e with e; injection e with e; injection e with e; exact absurd e ne⟩⟩, below_trans hb hb2⟩)
  have K4 := Lib.hid (show ∀ w', Below w.heap.size w w' → Calls Try.prog 23 #[.pointer (some ⟨a4, 0, none⟩)] w' fun e w'' => ∃ v, e = .returned v ∧ GV a3 a4 (pV s3) (pV s4) 23 #[.pointer (some ⟨a4, 0, none⟩)] v ∧ Below w.heap.size w w'' from fun w' hb =>
    (c39 a4 s4 w' (h4.below hb l4) (Nat.lt_of_lt_of_le l4 hb.size) z4.1 z4.2).mono fun e w'' ⟨⟨r, he, h1, h2⟩, hb2⟩ => ⟨_, he, ⟨(fun h => by cases h), fun _ => ⟨r, rfl, fun e => by injection e with e; injection e with e; injection e with e; injection e with e; injection e with e; exact absurd e.symm ne, fun _ => ⟨h1, h2⟩⟩⟩, below_trans hb hb2⟩)
  have HA := Lib.hid (And.intro ha hb)
  have eqn : ((n : Int) == (n : Int)) = true := by simp
  clear hfin h8 l8 h3 h4 l3 l4 z3 z4 ne ha hb
  conv => arg 2; whnf
  refine wp_region_rel 18 (fun w' => Below w.heap.size w w') (GV a3 a4 (pV s3) (pV s4)) (by kernel_rfl) (by kernel_rfl) ((Below.refl _ _).drew) ?_
  simp only [List.take_succ_cons, List.take_zero, List.drop_succ_cons, List.drop_zero]
  refine rel_move (v := .int .i64 (n : Int)) rfl rfl ?_
  simp only [Act.put, List.setIfInBounds_toArray, List.set_cons_succ, List.set_cons_zero]
  refine rel_val (v := .pointer (some ⟨p8, 0, none⟩)) rfl (fun w' hw => by go_simp) ?_
  simp only [Act.put, List.setIfInBounds_toArray, List.set_cons_succ, List.set_cons_zero]
  refine rel_val (v := .int .i64 (n : Int)) rfl (fun w' hw => by have h := R0.out w' hw; unfold execOp; go_simp) ?_
  simp only [Act.put, List.setIfInBounds_toArray, List.set_cons_succ, List.set_cons_zero]
  refine rel_val (v := .bool true) rfl (fun w' hw => by go_simp) ?_
  simp only [Act.put, List.setIfInBounds_toArray, List.set_cons_succ, List.set_cons_zero]
  refine rel_move (v := .bool true) rfl rfl ?_
  simp only [Act.put, List.setIfInBounds_toArray, List.set_cons_succ, List.set_cons_zero]
  refine rel_move (v := .pointer (some ⟨a3, 0, none⟩)) rfl rfl ?_
  simp only [Act.put, List.setIfInBounds_toArray, List.set_cons_succ, List.set_cons_zero]
  refine rel_call (f := 23) (args := #[.pointer (some ⟨a3, 0, none⟩)]) rfl (fun w' hw => by go_simp) (fun w' hw => K3.out w' hw) (fun v hv => ?_)
  obtain ⟨r, rfl, hr⟩ := hv.2 rfl
  replace hr := hr.1 rfl
  clear hv
  simp only [Act.put, List.setIfInBounds_toArray, List.set_cons_succ, List.set_cons_zero]
  refine rel_val (v := .pointer (some ⟨p8, 1, none⟩)) rfl (fun w' hw => by go_simp) ?_
  simp only [Act.put, List.setIfInBounds_toArray, List.set_cons_succ, List.set_cons_zero]
  refine rel_loadF p8 1 a rfl rfl R1.out ?_
  simp only [Act.put, List.setIfInBounds_toArray, List.set_cons_succ, List.set_cons_zero]
  refine rel_call (f := 22) (args := #[.float .f64 r, .float .f64 a]) rfl (fun w' hw => by go_simp) (fun w' hw => (c24t r a w' hr.1 HA.out.1.1 (hr.2.trans HA.out.1.2.symm)).mono fun e w'' ⟨he, hq⟩ => ⟨_, he, ⟨fun _ => rfl, (fun h => by cases h)⟩, hq ▸ hw⟩) (fun v hv => ?_)
  obtain rfl := hv.1 rfl
  clear hv
  simp only [Act.put, List.setIfInBounds_toArray, List.set_cons_succ, List.set_cons_zero]
  refine rel_val (v := .bool true) rfl (fun w' hw => by go_simp) ?_
  simp only [Act.put, List.setIfInBounds_toArray, List.set_cons_succ, List.set_cons_zero]
  refine rel_move (v := .bool true) rfl rfl ?_
  simp only [Act.put, List.setIfInBounds_toArray, List.set_cons_succ, List.set_cons_zero]
  refine rel_move (v := .pointer (some ⟨a4, 0, none⟩)) rfl rfl ?_
  simp only [Act.put, List.setIfInBounds_toArray, List.set_cons_succ, List.set_cons_zero]
  refine rel_call (f := 23) (args := #[.pointer (some ⟨a4, 0, none⟩)]) rfl (fun w' hw => by go_simp) (fun w' hw => K4.out w' hw) (fun v hv => ?_)
  obtain ⟨s, rfl, hs⟩ := hv.2 rfl
  replace hs := hs.2 rfl
  clear hv
  simp only [Act.put, List.setIfInBounds_toArray, List.set_cons_succ, List.set_cons_zero]
  refine rel_val (v := .pointer (some ⟨p8, 2, none⟩)) rfl (fun w' hw => by go_simp) ?_
  simp only [Act.put, List.setIfInBounds_toArray, List.set_cons_succ, List.set_cons_zero]
  refine rel_loadF p8 2 b rfl rfl R2.out ?_
  simp only [Act.put, List.setIfInBounds_toArray, List.set_cons_succ, List.set_cons_zero]
  refine rel_call (f := 22) (args := #[.float .f64 s, .float .f64 b]) rfl (fun w' hw => by go_simp) (fun w' hw => (c24t s b w' hs.1 HA.out.2.1 (hs.2.trans HA.out.2.2.symm)).mono fun e w'' ⟨he, hq⟩ => ⟨_, he, ⟨fun _ => rfl, (fun h => by cases h)⟩, hq ▸ hw⟩) (fun v hv => ?_)
  obtain rfl := hv.1 rfl
  clear hv
  simp only [Act.put, List.setIfInBounds_toArray, List.set_cons_succ, List.set_cons_zero]
  refine rel_val (v := .bool true) rfl (fun w' hw => by go_simp) ?_
  simp only [Act.put, List.setIfInBounds_toArray, List.set_cons_succ, List.set_cons_zero]
  refine rel_nil ?_
  intro w' hw
  have HW := Lib.hid hw
  clear hw hr hs
  go_wp2
  exact HF.out _ _ _ _ _ _ _ _ _ _ _ _ _ _ _ _ _ _ w' HW.out
end Go.Proofs.Ytedkbjimofiphaa
