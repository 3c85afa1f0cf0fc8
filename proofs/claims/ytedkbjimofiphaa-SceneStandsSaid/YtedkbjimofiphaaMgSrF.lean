/- slices.symMergeCmpFunc at ints, by the order of levels. Boxes beneath boxes, in the order of their keys: plain laws. -/
import Derived.Test.YtedkbjimofiphaaMgSrA
import Derived.Deep.DeepCutAuto
import Derived.Deep.CutBlock
import Derived.Test.YtedkbjimofiphaaMgSrt
namespace Go.Proofs.Ytedkbjimofiphaa
open Go.RowKit Fl
section
variable {key : Nat → Int}
theorem cut_le {S R : List Nat} (hS : Sd key S) (hR : Sd key R) (i j : Nat) (h : i = 0 ∨ j = R.length ∨ ∃ x y, S[i - 1]? = some x ∧ R[j]? = some y ∧ key x ≤ key y) :
    ∀ x ∈ S.take i, ∀ y ∈ R.drop j, key x ≤ key y := fun x hx y hy => by
  obtain ⟨s, hs, es⟩ := List.mem_iff_getElem.1 hx
  obtain ⟨t, ht, et⟩ := List.mem_iff_getElem.1 hy
  rw [List.length_take] at hs
  rw [List.length_drop] at ht
  rcases h with h | h | ⟨x', y', h1, h2, h3⟩
  · omega
  · omega
  · have := hS.get (t := s) (s := i - 1) (x := x) (by omega) (by rw [← es, List.getElem_take]; exact List.getElem?_eq_getElem _) h1
    have := hR.get (t := j) (s := j + t) (y := y) (by omega) h2 (by rw [← et, List.getElem_drop]; exact List.getElem?_eq_getElem _)
    omega
theorem cut_lt {S R : List Nat} (hS : Sd key S) (hR : Sd key R) (i j : Nat) (h : i = S.length ∨ j = 0 ∨ ∃ x y, S[i]? = some x ∧ R[j - 1]? = some y ∧ key y < key x) :
    ∀ y ∈ R.take j, ∀ x ∈ S.drop i, key y < key x := fun y hy x hx => by
  obtain ⟨s, hs, es⟩ := List.mem_iff_getElem.1 hx
  obtain ⟨t, ht, et⟩ := List.mem_iff_getElem.1 hy
  rw [List.length_drop] at hs
  rw [List.length_take] at ht
  rcases h with h | h | ⟨x', y', h1, h2, h3⟩
  · omega
  · omega
  · have := hR.get (t := t) (s := j - 1) (x := y) (by omega) (by rw [← et, List.getElem_take]; exact List.getElem?_eq_getElem _) h2
    have := hS.get (t := i) (s := i + s) (y := x) (by omega) h1 (by rw [← es, List.getElem_drop]; exact List.getElem?_eq_getElem _)
    omega
/-- what the search of symMerge knows -/
def SY (key : Nat → Int) (S R : List Nat) (a m n s0 r0 s r : Nat) : Prop :=
  (s = s0 ∨ ∃ x y, S[s - 1 - a]? = some x ∧ R[n - s - m]? = some y ∧ key x ≤ key y) ∧ (r = r0 ∨ ∃ x y, S[r - a]? = some x ∧ R[n - 1 - r - m]? = some y ∧ key y < key x)
end
def MergeAt (N : Nat) : Prop := ∀ (g cap bx ga n c a m b : Nat) (lv : Nat → Nat) (A S R Z : List Nat) (w : World) (L : Nat), S.length + R.length ≤ N → SE w g bx ga n c lv → DAt w g (A ++ (S ++ (R ++ Z))) → (∀ x ∈ S, x < n) → (∀ x ∈ R, x < n) →
    (A ++ (S ++ (R ++ Z))).length = L → L ≤ 1099511627776 → A.length = a → m = a + S.length → b = m + R.length → 0 < S.length → 0 < R.length → Sd (kf lv) S → Sd (kf lv) R →
    Calls Try.prog 89 #[.slice (some ⟨g, 0, none⟩) L cap, .int .i64 (a : Int), .int .i64 (m : Int), .int .i64 (b : Int), .func (.func 57) #[] #[.pointer (some ⟨bx, 0, none⟩)]] w
      fun e w' => e = .returned (.tuple #[]) ∧ DAt w' g (A ++ (mg (kf lv) S R ++ Z)) ∧ Only g w w'
/-- a region, and what stands behind it in its sequence -/
def fromRegion (n : Nat) : Code → Option (Code × Code)
  | .seq (.region m x y) b => if m = n then some (.region m x y, b) else fromRegion n b
  | .seq a b => match fromRegion n a with
    | some c => some c
    | none => fromRegion n b
  | .block _ c => fromRegion n c
  | .scope c => fromRegion n c
  | .cond _ a b => match fromRegion n a with
    | some c => some c
    | none => fromRegion n b
  | _ => none
noncomputable def tr89 (n : Nat) : Code := ((Try.f89.body.bind (fromRegion n)).getD (.skip, .skip)).1
noncomputable def tc89 (n : Nat) : Code := ((Try.f89.body.bind (fromRegion n)).getD (.skip, .skip)).2
set_option maxRecDepth 100000 in
set_option maxHeartbeats 2000000 in
theorem tail43 {Q : Exit → Act → World → Prop} {K0 : Act → World → Prop} (hK0 : ∀ a w, Code.wp Try.prog (tc89 43) Q a w → K0 a w) (N g cap bx ga n c a m b mid s fin L : Nat) (lv : Nat → Nat) (A S1 S2 R1 R2 Z : List Nat) (w wr : World) (u5 u6 u7 u8 u9 u10 u11 u12 u13 u14 u15 u16 u17 u19 u21 u22 u23 u25 u26 u27 u28 u29 u30 u31 u32 u33 u34 u35 u36 u37 u38 u39 u40 u41 u42 u43 u44 u45 u46 u47 u48 u49 u50 u51 u52 u53 u54 u55 u56 u57 u58 u59 u60 u61 u62 u63 u64 u65 u66 u67 u68 u69 u70 u71 u72 u73 u74 u75 u76 u77 u78 u79 u80 u81 u82 u83 u84 u85 u86 u87 u88 u89 u90 u91 u92 u93 u94 u95 u96 u97 u98 u99 u100 u101 u102 u103 u104 u105 u106 u107 u108 u109 u110 u111 u112 u113 u114 u115 u116 u117 u118 u119 u120 u121 u122 u123 u124 u125 u126 u127 u128 u129 u130 u131 u132 u133 u134 u135 u136 u137 u138 u139 u140 u141 u142 u143 u144 u145 u146 u147 u148 u149 u150 u151 u152 u153 u154 u155 u156 u157 u158 u159 u160 u161 u162 u163 u164 u165 u166 u167 u168 u169 u170 u171 u172 u173 u174 u175 u176 u177 u178 u179 u180 u181 u182 u183 u184 u185 u186 u187 u188 u189 u190 u191 u192 u193 u194 u195 u196 u197 u198 u199 u200 u201 u202 u203 u204 u205 u206 u207 u208 u209 u210 u211 u212 u213 u214 u215 u216 u217 u218 u219 : Value)
    (ham : a + 2 ≤ m) (hmb : m + 2 ≤ b) (hbL : b ≤ L) (hs : L ≤ 1099511627776) (ma : a < mid) (mb : mid < b) (k1 : a ≤ s) (k2 : s ≤ m) (k3 : m ≤ fin) (k4 : fin ≤ b) (k5 : s ≤ mid)
    (K : Hid (A.length = a ∧ S1.length = s - a ∧ R1.length = fin - m ∧ S2.length = m - s ∧ R2.length = b - fin ∧ fin = mid + m - s)) (HLL : Hid ((A ++ (S1 ++ (S2 ++ (R1 ++ (R2 ++ Z))))).length = L))
    (IH : Hid (MergeAt N)) (HE : Hid (SE w g bx ga n c lv)) (HI : Hid ((s - a) + (fin - m) ≤ N ∧ (m - s) + (b - fin) ≤ N))
    (SS1 : Hid (Sd (kf lv) S1)) (SS2 : Hid (Sd (kf lv) S2)) (SR1 : Hid (Sd (kf lv) R1)) (SR2 : Hid (Sd (kf lv) R2)) (n1 : Hid (∀ x ∈ S1, x < n)) (n2 : Hid (∀ x ∈ S2, x < n)) (n3 : Hid (∀ x ∈ R1, x < n)) (n4 : Hid (∀ x ∈ R2, x < n))
    (HQ : Hid (DAt wr g (A ++ (mg (kf lv) S1 R1 ++ (S2 ++ (R2 ++ Z)))) ∧ Only g w wr))
    (hfin : ∀ (v206 v207 v208 v209 v210 v211 v212 v213 v214 v215 v216 v217 v218 v219 : Value) (w' : World), Hid (DAt w' g (A ++ (mg (kf lv) S1 R1 ++ (mg (kf lv) S2 R2 ++ Z))) ∧ Only g w w') → Q .normal ⟨List.toArray (.slice (some ⟨g, 0, none⟩) L cap :: .int .i64 (a : Int) :: .int .i64 (m : Int) :: .int .i64 (b : Int) :: .func (.func 57) #[] #[.pointer (some ⟨bx, 0, none⟩)] :: u5 :: u6 :: u7 :: u8 :: u9 :: u10 :: u11 :: u12 :: u13 :: u14 :: u15 :: u16 :: u17 :: .int .i64 (mid : Int) :: u19 :: .int .i64 (s : Int) :: u21 :: u22 :: u23 :: .int .i64 (fin : Int) :: u25 :: u26 :: u27 :: u28 :: u29 :: u30 :: u31 :: u32 :: u33 :: u34 :: u35 :: u36 :: u37 :: u38 :: u39 :: u40 :: u41 :: u42 :: u43 :: u44 :: u45 :: u46 :: u47 :: u48 :: u49 :: u50 :: u51 :: u52 :: u53 :: u54 :: u55 :: u56 :: u57 :: u58 :: u59 :: u60 :: u61 :: u62 :: u63 :: u64 :: u65 :: u66 :: u67 :: u68 :: u69 :: u70 :: u71 :: u72 :: u73 :: u74 :: u75 :: u76 :: u77 :: u78 :: u79 :: u80 :: u81 :: u82 :: u83 :: u84 :: u85 :: u86 :: u87 :: u88 :: u89 :: u90 :: u91 :: u92 :: u93 :: u94 :: u95 :: u96 :: u97 :: u98 :: u99 :: u100 :: u101 :: u102 :: u103 :: u104 :: u105 :: u106 :: u107 :: u108 :: u109 :: u110 :: u111 :: u112 :: u113 :: u114 :: u115 :: u116 :: u117 :: u118 :: u119 :: u120 :: u121 :: u122 :: u123 :: u124 :: u125 :: u126 :: u127 :: u128 :: u129 :: u130 :: u131 :: u132 :: u133 :: u134 :: u135 :: u136 :: u137 :: u138 :: u139 :: u140 :: u141 :: u142 :: u143 :: u144 :: u145 :: u146 :: u147 :: u148 :: u149 :: u150 :: u151 :: u152 :: u153 :: u154 :: u155 :: u156 :: u157 :: u158 :: u159 :: u160 :: u161 :: u162 :: u163 :: u164 :: u165 :: u166 :: u167 :: u168 :: u169 :: u170 :: u171 :: u172 :: u173 :: u174 :: u175 :: u176 :: u177 :: u178 :: u179 :: u180 :: u181 :: u182 :: u183 :: u184 :: u185 :: u186 :: u187 :: u188 :: u189 :: u190 :: u191 :: u192 :: u193 :: u194 :: u195 :: u196 :: u197 :: u198 :: u199 :: u200 :: u201 :: u202 :: u203 :: u204 :: u205 :: v206 :: v207 :: v208 :: v209 :: v210 :: v211 :: v212 :: v213 :: v214 :: v215 :: v216 :: v217 :: v218 :: v219 :: []), []⟩ w') : Code.wp Try.prog (tr89 43) (Exit.then K0 Q) ⟨List.toArray (.slice (some ⟨g, 0, none⟩) L cap :: .int .i64 (a : Int) :: .int .i64 (m : Int) :: .int .i64 (b : Int) :: .func (.func 57) #[] #[.pointer (some ⟨bx, 0, none⟩)] :: u5 :: u6 :: u7 :: u8 :: u9 :: u10 :: u11 :: u12 :: u13 :: u14 :: u15 :: u16 :: u17 :: .int .i64 (mid : Int) :: u19 :: .int .i64 (s : Int) :: u21 :: u22 :: u23 :: .int .i64 (fin : Int) :: u25 :: u26 :: u27 :: u28 :: u29 :: u30 :: u31 :: u32 :: u33 :: u34 :: u35 :: u36 :: u37 :: u38 :: u39 :: u40 :: u41 :: u42 :: u43 :: u44 :: u45 :: u46 :: u47 :: u48 :: u49 :: u50 :: u51 :: u52 :: u53 :: u54 :: u55 :: u56 :: u57 :: u58 :: u59 :: u60 :: u61 :: u62 :: u63 :: u64 :: u65 :: u66 :: u67 :: u68 :: u69 :: u70 :: u71 :: u72 :: u73 :: u74 :: u75 :: u76 :: u77 :: u78 :: u79 :: u80 :: u81 :: u82 :: u83 :: u84 :: u85 :: u86 :: u87 :: u88 :: u89 :: u90 :: u91 :: u92 :: u93 :: u94 :: u95 :: u96 :: u97 :: u98 :: u99 :: u100 :: u101 :: u102 :: u103 :: u104 :: u105 :: u106 :: u107 :: u108 :: u109 :: u110 :: u111 :: u112 :: u113 :: u114 :: u115 :: u116 :: u117 :: u118 :: u119 :: u120 :: u121 :: u122 :: u123 :: u124 :: u125 :: u126 :: u127 :: u128 :: u129 :: u130 :: u131 :: u132 :: u133 :: u134 :: u135 :: u136 :: u137 :: u138 :: u139 :: u140 :: u141 :: u142 :: u143 :: u144 :: u145 :: u146 :: u147 :: u148 :: u149 :: u150 :: u151 :: u152 :: u153 :: u154 :: u155 :: u156 :: u157 :: u158 :: u159 :: u160 :: u161 :: u162 :: u163 :: u164 :: u165 :: u166 :: u167 :: u168 :: u169 :: u170 :: u171 :: u172 :: u173 :: u174 :: u175 :: u176 :: u177 :: u178 :: u179 :: u180 :: u181 :: u182 :: u183 :: u184 :: u185 :: u186 :: u187 :: u188 :: u189 :: u190 :: u191 :: u192 :: u193 :: u194 :: u195 :: u196 :: u197 :: u198 :: u199 :: u200 :: u201 :: u202 :: u203 :: u204 :: u205 :: u206 :: u207 :: u208 :: u209 :: u210 :: u211 :: u212 :: u213 :: u214 :: u215 :: u216 :: u217 :: u218 :: u219 :: []), []⟩ wr := by
  have HLL3 := Lib.hid (show ((A ++ mg (kf lv) S1 R1) ++ (S2 ++ (R2 ++ Z))).length = L by rw [← HLL.out]; simp only [List.length_append, mg_length]; omega)
  have HAL := Lib.hid (show (A ++ mg (kf lv) S1 R1).length = mid by have := K.out; rw [List.length_append, mg_length]; omega)
  have HF := Lib.hid hfin
  clear hfin
  conv => arg 2; whnf
  go_cut [213] from 206 to 213 (fun v wx => ∃ t : Bool, v = .bool t ∧ Hid (if t then mid < fin ∧ fin < b else ¬ (mid < fin ∧ fin < b)) ∧ Hid (wx = wr))
  case first =>
    by_cases h1 : mid < fin
    · have i1 : (mid : Int) < (fin : Int) := by omega
      by_cases h2 : fin < b
      · have i2 : (fin : Int) < (b : Int) := by omega
        have X := Lib.hid (show if true = true then mid < fin ∧ fin < b else ¬ (mid < fin ∧ fin < b) from ⟨h1, h2⟩)
        go_wp2
        go_meet
        exact ⟨true, rfl, X, Lib.hid rfl⟩
      · have i2 : ¬ (fin : Int) < (b : Int) := by omega
        have X := Lib.hid (show if false = true then mid < fin ∧ fin < b else ¬ (mid < fin ∧ fin < b) from fun h => h2 h.2)
        go_wp2
        go_meet
        exact ⟨false, rfl, X, Lib.hid rfl⟩
    · have i1 : decide ((mid : Int) < (fin : Int)) = false := decide_eq_false (by omega)
      have X := Lib.hid (show if false = true then mid < fin ∧ fin < b else ¬ (mid < fin ∧ fin < b) from fun h => h1 h.1)
      go_wp2
      go_meet
      exact ⟨false, rfl, X, Lib.hid rfl⟩
  case rest =>
  obtain ⟨t, rfl, ht, hw⟩ := hcut
  obtain rfl := hw.out.symm
  clear hw
  refine hK0 _ _ ?_
  conv => arg 2; whnf
  cases t with
  | true =>
    obtain ⟨i1, i2⟩ : mid < fin ∧ fin < b := ht.out
    go_wp2_with fail
    go_at_call 89
    refine (IH.out g cap bx ga n c mid fin b lv (A ++ mg (kf lv) S1 R1) S2 R2 Z wr L (by have := K.out; have := HI.out; omega) (HE.out.only HQ.out.2) (by simpa using HQ.out.1) n2.out n4.out HLL3.out hs HAL.out (by have := K.out; omega) (by have := K.out; omega) (by have := K.out; omega) (by have := K.out; omega) SS2.out SR2.out).mono fun e w' ⟨he, h8, h9⟩ => ?_
    subst he
    have HQ3 := Lib.hid (show DAt w' g (A ++ (mg (kf lv) S1 R1 ++ (mg (kf lv) S2 R2 ++ Z))) ∧ Only g w w' from ⟨by simpa using h8, HQ.out.2.trans h9⟩)
    clear h8 h9
    go_wp2
    exact HF.out _ _ _ _ _ _ _ _ _ _ _ _ _ _ _ HQ3
  | false =>
    have h : ¬ (mid < fin ∧ fin < b) := ht.out
    have HQ3 := Lib.hid (show DAt wr g (A ++ (mg (kf lv) S1 R1 ++ (mg (kf lv) S2 R2 ++ Z))) ∧ Only g w wr by
      have T := HQ.out
      have := K.out
      by_cases h1 : mid < fin
      · have e : R2 = [] := List.length_eq_zero_iff.1 (by omega)
        rw [e] at T ⊢
        rw [mg_nil_r]
        exact T
      · have e : S2 = [] := List.length_eq_zero_iff.1 (by omega)
        rw [e] at T ⊢
        rw [mg_nil]
        exact T)
    go_wp2
    exact HF.out _ _ _ _ _ _ _ _ _ _ _ _ _ _ _ HQ3
set_option maxRecDepth 100000 in
set_option maxHeartbeats 2000000 in
theorem tail41 {Q : Exit → Act → World → Prop} {K0 : Act → World → Prop} (hK0 : ∀ a w, Code.wp Try.prog (tc89 41) Q a w → K0 a w) (N g cap bx ga n c a m b mid s fin L : Nat) (lv : Nat → Nat) (A S1 S2 R1 R2 Z : List Nat) (w wr : World) (u5 u6 u7 u8 u9 u10 u11 u12 u13 u14 u15 u16 u17 u19 u21 u22 u23 u25 u26 u27 u28 u29 u30 u31 u32 u33 u34 u35 u36 u37 u38 u39 u40 u41 u42 u43 u44 u45 u46 u47 u48 u49 u50 u51 u52 u53 u54 u55 u56 u57 u58 u59 u60 u61 u62 u63 u64 u65 u66 u67 u68 u69 u70 u71 u72 u73 u74 u75 u76 u77 u78 u79 u80 u81 u82 u83 u84 u85 u86 u87 u88 u89 u90 u91 u92 u93 u94 u95 u96 u97 u98 u99 u100 u101 u102 u103 u104 u105 u106 u107 u108 u109 u110 u111 u112 u113 u114 u115 u116 u117 u118 u119 u120 u121 u122 u123 u124 u125 u126 u127 u128 u129 u130 u131 u132 u133 u134 u135 u136 u137 u138 u139 u140 u141 u142 u143 u144 u145 u146 u147 u148 u149 u150 u151 u152 u153 u154 u155 u156 u157 u158 u159 u160 u161 u162 u163 u164 u165 u166 u167 u168 u169 u170 u171 u172 u173 u174 u175 u176 u177 u178 u179 u180 u181 u182 u183 u184 u185 u186 u187 u188 u189 u190 u191 u192 u193 u194 u195 u196 u197 u198 u199 u200 u201 u202 u203 u204 u205 u206 u207 u208 u209 u210 u211 u212 u213 u214 u215 u216 u217 u218 u219 : Value)
    (ham : a + 2 ≤ m) (hmb : m + 2 ≤ b) (hbL : b ≤ L) (hs : L ≤ 1099511627776) (ma : a < mid) (mb : mid < b) (k1 : a ≤ s) (k2 : s ≤ m) (k3 : m ≤ fin) (k4 : fin ≤ b) (k5 : s ≤ mid)
    (K : Hid (A.length = a ∧ S1.length = s - a ∧ R1.length = fin - m ∧ S2.length = m - s ∧ R2.length = b - fin ∧ fin = mid + m - s)) (HLL : Hid ((A ++ (S1 ++ (S2 ++ (R1 ++ (R2 ++ Z))))).length = L))
    (IH : Hid (MergeAt N)) (HE : Hid (SE w g bx ga n c lv)) (HI : Hid ((s - a) + (fin - m) ≤ N ∧ (m - s) + (b - fin) ≤ N))
    (SS1 : Hid (Sd (kf lv) S1)) (SS2 : Hid (Sd (kf lv) S2)) (SR1 : Hid (Sd (kf lv) R1)) (SR2 : Hid (Sd (kf lv) R2)) (n1 : Hid (∀ x ∈ S1, x < n)) (n2 : Hid (∀ x ∈ S2, x < n)) (n3 : Hid (∀ x ∈ R1, x < n)) (n4 : Hid (∀ x ∈ R2, x < n))
    (HQ : Hid (DAt wr g (A ++ (S1 ++ (R1 ++ (S2 ++ (R2 ++ Z))))) ∧ Only g w wr))
    (hfin : ∀ (v192 v193 v194 v195 v196 v197 v198 v199 v200 v201 v202 v203 v204 v205 : Value) (w' : World), Hid (DAt w' g (A ++ (mg (kf lv) S1 R1 ++ (S2 ++ (R2 ++ Z)))) ∧ Only g w w') → Q .normal ⟨List.toArray (.slice (some ⟨g, 0, none⟩) L cap :: .int .i64 (a : Int) :: .int .i64 (m : Int) :: .int .i64 (b : Int) :: .func (.func 57) #[] #[.pointer (some ⟨bx, 0, none⟩)] :: u5 :: u6 :: u7 :: u8 :: u9 :: u10 :: u11 :: u12 :: u13 :: u14 :: u15 :: u16 :: u17 :: .int .i64 (mid : Int) :: u19 :: .int .i64 (s : Int) :: u21 :: u22 :: u23 :: .int .i64 (fin : Int) :: u25 :: u26 :: u27 :: u28 :: u29 :: u30 :: u31 :: u32 :: u33 :: u34 :: u35 :: u36 :: u37 :: u38 :: u39 :: u40 :: u41 :: u42 :: u43 :: u44 :: u45 :: u46 :: u47 :: u48 :: u49 :: u50 :: u51 :: u52 :: u53 :: u54 :: u55 :: u56 :: u57 :: u58 :: u59 :: u60 :: u61 :: u62 :: u63 :: u64 :: u65 :: u66 :: u67 :: u68 :: u69 :: u70 :: u71 :: u72 :: u73 :: u74 :: u75 :: u76 :: u77 :: u78 :: u79 :: u80 :: u81 :: u82 :: u83 :: u84 :: u85 :: u86 :: u87 :: u88 :: u89 :: u90 :: u91 :: u92 :: u93 :: u94 :: u95 :: u96 :: u97 :: u98 :: u99 :: u100 :: u101 :: u102 :: u103 :: u104 :: u105 :: u106 :: u107 :: u108 :: u109 :: u110 :: u111 :: u112 :: u113 :: u114 :: u115 :: u116 :: u117 :: u118 :: u119 :: u120 :: u121 :: u122 :: u123 :: u124 :: u125 :: u126 :: u127 :: u128 :: u129 :: u130 :: u131 :: u132 :: u133 :: u134 :: u135 :: u136 :: u137 :: u138 :: u139 :: u140 :: u141 :: u142 :: u143 :: u144 :: u145 :: u146 :: u147 :: u148 :: u149 :: u150 :: u151 :: u152 :: u153 :: u154 :: u155 :: u156 :: u157 :: u158 :: u159 :: u160 :: u161 :: u162 :: u163 :: u164 :: u165 :: u166 :: u167 :: u168 :: u169 :: u170 :: u171 :: u172 :: u173 :: u174 :: u175 :: u176 :: u177 :: u178 :: u179 :: u180 :: u181 :: u182 :: u183 :: u184 :: u185 :: u186 :: u187 :: u188 :: u189 :: u190 :: u191 :: v192 :: v193 :: v194 :: v195 :: v196 :: v197 :: v198 :: v199 :: v200 :: v201 :: v202 :: v203 :: v204 :: v205 :: u206 :: u207 :: u208 :: u209 :: u210 :: u211 :: u212 :: u213 :: u214 :: u215 :: u216 :: u217 :: u218 :: u219 :: []), []⟩ w') : Code.wp Try.prog (tr89 41) (Exit.then K0 Q) ⟨List.toArray (.slice (some ⟨g, 0, none⟩) L cap :: .int .i64 (a : Int) :: .int .i64 (m : Int) :: .int .i64 (b : Int) :: .func (.func 57) #[] #[.pointer (some ⟨bx, 0, none⟩)] :: u5 :: u6 :: u7 :: u8 :: u9 :: u10 :: u11 :: u12 :: u13 :: u14 :: u15 :: u16 :: u17 :: .int .i64 (mid : Int) :: u19 :: .int .i64 (s : Int) :: u21 :: u22 :: u23 :: .int .i64 (fin : Int) :: u25 :: u26 :: u27 :: u28 :: u29 :: u30 :: u31 :: u32 :: u33 :: u34 :: u35 :: u36 :: u37 :: u38 :: u39 :: u40 :: u41 :: u42 :: u43 :: u44 :: u45 :: u46 :: u47 :: u48 :: u49 :: u50 :: u51 :: u52 :: u53 :: u54 :: u55 :: u56 :: u57 :: u58 :: u59 :: u60 :: u61 :: u62 :: u63 :: u64 :: u65 :: u66 :: u67 :: u68 :: u69 :: u70 :: u71 :: u72 :: u73 :: u74 :: u75 :: u76 :: u77 :: u78 :: u79 :: u80 :: u81 :: u82 :: u83 :: u84 :: u85 :: u86 :: u87 :: u88 :: u89 :: u90 :: u91 :: u92 :: u93 :: u94 :: u95 :: u96 :: u97 :: u98 :: u99 :: u100 :: u101 :: u102 :: u103 :: u104 :: u105 :: u106 :: u107 :: u108 :: u109 :: u110 :: u111 :: u112 :: u113 :: u114 :: u115 :: u116 :: u117 :: u118 :: u119 :: u120 :: u121 :: u122 :: u123 :: u124 :: u125 :: u126 :: u127 :: u128 :: u129 :: u130 :: u131 :: u132 :: u133 :: u134 :: u135 :: u136 :: u137 :: u138 :: u139 :: u140 :: u141 :: u142 :: u143 :: u144 :: u145 :: u146 :: u147 :: u148 :: u149 :: u150 :: u151 :: u152 :: u153 :: u154 :: u155 :: u156 :: u157 :: u158 :: u159 :: u160 :: u161 :: u162 :: u163 :: u164 :: u165 :: u166 :: u167 :: u168 :: u169 :: u170 :: u171 :: u172 :: u173 :: u174 :: u175 :: u176 :: u177 :: u178 :: u179 :: u180 :: u181 :: u182 :: u183 :: u184 :: u185 :: u186 :: u187 :: u188 :: u189 :: u190 :: u191 :: u192 :: u193 :: u194 :: u195 :: u196 :: u197 :: u198 :: u199 :: u200 :: u201 :: u202 :: u203 :: u204 :: u205 :: u206 :: u207 :: u208 :: u209 :: u210 :: u211 :: u212 :: u213 :: u214 :: u215 :: u216 :: u217 :: u218 :: u219 :: []), []⟩ wr := by
  have HLL2 := Lib.hid (show (A ++ (S1 ++ (R1 ++ (S2 ++ (R2 ++ Z))))).length = L by rw [← HLL.out]; simp only [List.length_append]; omega)
  have HF := Lib.hid hfin
  clear hfin
  conv => arg 2; whnf
  go_cut [199] from 192 to 199 (fun v wx => ∃ t : Bool, v = .bool t ∧ Hid (if t then a < s ∧ s < mid else ¬ (a < s ∧ s < mid)) ∧ Hid (wx = wr))
  case first =>
    by_cases h1 : a < s
    · have i1 : (a : Int) < (s : Int) := by omega
      by_cases h2 : s < mid
      · have i2 : (s : Int) < (mid : Int) := by omega
        have X := Lib.hid (show if true = true then a < s ∧ s < mid else ¬ (a < s ∧ s < mid) from ⟨h1, h2⟩)
        go_wp2
        go_meet
        exact ⟨true, rfl, X, Lib.hid rfl⟩
      · have i2 : ¬ (s : Int) < (mid : Int) := by omega
        have X := Lib.hid (show if false = true then a < s ∧ s < mid else ¬ (a < s ∧ s < mid) from fun h => h2 h.2)
        go_wp2
        go_meet
        exact ⟨false, rfl, X, Lib.hid rfl⟩
    · have i1 : decide ((a : Int) < (s : Int)) = false := decide_eq_false (by omega)
      have X := Lib.hid (show if false = true then a < s ∧ s < mid else ¬ (a < s ∧ s < mid) from fun h => h1 h.1)
      go_wp2
      go_meet
      exact ⟨false, rfl, X, Lib.hid rfl⟩
  case rest =>
  obtain ⟨t, rfl, ht, hw⟩ := hcut
  obtain rfl := hw.out.symm
  clear hw
  refine hK0 _ _ ?_
  conv => arg 2; whnf
  cases t with
  | true =>
    obtain ⟨i1, i2⟩ : a < s ∧ s < mid := ht.out
    go_wp2_with fail
    go_at_call 89
    refine (IH.out g cap bx ga n c a s mid lv A S1 R1 (S2 ++ (R2 ++ Z)) wr L (by have := K.out; have := HI.out; omega) (HE.out.only HQ.out.2) HQ.out.1 n1.out n3.out HLL2.out hs (by have := K.out; omega) (by have := K.out; omega) (by have := K.out; omega) (by have := K.out; omega) (by have := K.out; omega) SS1.out SR1.out).mono fun e w' ⟨he, h8, h9⟩ => ?_
    subst he
    have HQ3 := Lib.hid (show DAt w' g (A ++ (mg (kf lv) S1 R1 ++ (S2 ++ (R2 ++ Z)))) ∧ Only g w w' from ⟨h8, HQ.out.2.trans h9⟩)
    clear h8 h9
    go_wp2
    exact HF.out _ _ _ _ _ _ _ _ _ _ _ _ _ _ _ HQ3
  | false =>
    have h : ¬ (a < s ∧ s < mid) := ht.out
    have HQ3 := Lib.hid (show DAt wr g (A ++ (mg (kf lv) S1 R1 ++ (S2 ++ (R2 ++ Z)))) ∧ Only g w wr by
      have T := HQ.out
      have := K.out
      by_cases h1 : a < s
      · have e : R1 = [] := List.length_eq_zero_iff.1 (by omega)
        rw [e] at T ⊢
        rw [mg_nil_r]
        exact T
      · have e : S1 = [] := List.length_eq_zero_iff.1 (by omega)
        rw [e] at T ⊢
        rw [mg_nil]
        exact T)
    go_wp2
    exact HF.out _ _ _ _ _ _ _ _ _ _ _ _ _ _ _ HQ3
set_option maxRecDepth 100000 in
set_option maxHeartbeats 2000000 in
theorem tail39 {Q : Exit → Act → World → Prop} {K0 : Act → World → Prop} (hK0 : ∀ a w, Code.wp Try.prog (tc89 39) Q a w → K0 a w) (N g cap bx ga n c a m b mid s fin L : Nat) (lv : Nat → Nat) (A S1 S2 R1 R2 Z : List Nat) (w wr : World) (u5 u6 u7 u8 u9 u10 u11 u12 u13 u14 u15 u16 u17 u19 u21 u22 u23 u25 u26 u27 u28 u29 u30 u31 u32 u33 u34 u35 u36 u37 u38 u39 u40 u41 u42 u43 u44 u45 u46 u47 u48 u49 u50 u51 u52 u53 u54 u55 u56 u57 u58 u59 u60 u61 u62 u63 u64 u65 u66 u67 u68 u69 u70 u71 u72 u73 u74 u75 u76 u77 u78 u79 u80 u81 u82 u83 u84 u85 u86 u87 u88 u89 u90 u91 u92 u93 u94 u95 u96 u97 u98 u99 u100 u101 u102 u103 u104 u105 u106 u107 u108 u109 u110 u111 u112 u113 u114 u115 u116 u117 u118 u119 u120 u121 u122 u123 u124 u125 u126 u127 u128 u129 u130 u131 u132 u133 u134 u135 u136 u137 u138 u139 u140 u141 u142 u143 u144 u145 u146 u147 u148 u149 u150 u151 u152 u153 u154 u155 u156 u157 u158 u159 u160 u161 u162 u163 u164 u165 u166 u167 u168 u169 u170 u171 u172 u173 u174 u175 u176 u177 u178 u179 u180 u181 u182 u183 u184 u185 u186 u187 u188 u189 u190 u191 u192 u193 u194 u195 u196 u197 u198 u199 u200 u201 u202 u203 u204 u205 u206 u207 u208 u209 u210 u211 u212 u213 u214 u215 u216 u217 u218 u219 : Value)
    (ham : a + 2 ≤ m) (hmb : m + 2 ≤ b) (hbL : b ≤ L) (hs : L ≤ 1099511627776) (ma : a < mid) (mb : mid < b) (k1 : a ≤ s) (k2 : s ≤ m) (k3 : m ≤ fin) (k4 : fin ≤ b) (k5 : s ≤ mid)
    (K : Hid (A.length = a ∧ S1.length = s - a ∧ R1.length = fin - m ∧ S2.length = m - s ∧ R2.length = b - fin ∧ fin = mid + m - s)) (HLL : Hid ((A ++ (S1 ++ (S2 ++ (R1 ++ (R2 ++ Z))))).length = L))
    (IH : Hid (MergeAt N)) (HE : Hid (SE w g bx ga n c lv)) (HI : Hid ((s - a) + (fin - m) ≤ N ∧ (m - s) + (b - fin) ≤ N))
    (SS1 : Hid (Sd (kf lv) S1)) (SS2 : Hid (Sd (kf lv) S2)) (SR1 : Hid (Sd (kf lv) R1)) (SR2 : Hid (Sd (kf lv) R2)) (n1 : Hid (∀ x ∈ S1, x < n)) (n2 : Hid (∀ x ∈ S2, x < n)) (n3 : Hid (∀ x ∈ R1, x < n)) (n4 : Hid (∀ x ∈ R2, x < n))
    (HQ : Hid (DAt wr g (A ++ (S1 ++ (S2 ++ (R1 ++ (R2 ++ Z))))) ∧ Only g w wr))
    (hfin : ∀ (v178 v179 v180 v181 v182 v183 v184 v185 v186 v187 v188 v189 v190 v191 : Value) (w' : World), Hid (DAt w' g (A ++ (S1 ++ (R1 ++ (S2 ++ (R2 ++ Z))))) ∧ Only g w w') → Q .normal ⟨List.toArray (.slice (some ⟨g, 0, none⟩) L cap :: .int .i64 (a : Int) :: .int .i64 (m : Int) :: .int .i64 (b : Int) :: .func (.func 57) #[] #[.pointer (some ⟨bx, 0, none⟩)] :: u5 :: u6 :: u7 :: u8 :: u9 :: u10 :: u11 :: u12 :: u13 :: u14 :: u15 :: u16 :: u17 :: .int .i64 (mid : Int) :: u19 :: .int .i64 (s : Int) :: u21 :: u22 :: u23 :: .int .i64 (fin : Int) :: u25 :: u26 :: u27 :: u28 :: u29 :: u30 :: u31 :: u32 :: u33 :: u34 :: u35 :: u36 :: u37 :: u38 :: u39 :: u40 :: u41 :: u42 :: u43 :: u44 :: u45 :: u46 :: u47 :: u48 :: u49 :: u50 :: u51 :: u52 :: u53 :: u54 :: u55 :: u56 :: u57 :: u58 :: u59 :: u60 :: u61 :: u62 :: u63 :: u64 :: u65 :: u66 :: u67 :: u68 :: u69 :: u70 :: u71 :: u72 :: u73 :: u74 :: u75 :: u76 :: u77 :: u78 :: u79 :: u80 :: u81 :: u82 :: u83 :: u84 :: u85 :: u86 :: u87 :: u88 :: u89 :: u90 :: u91 :: u92 :: u93 :: u94 :: u95 :: u96 :: u97 :: u98 :: u99 :: u100 :: u101 :: u102 :: u103 :: u104 :: u105 :: u106 :: u107 :: u108 :: u109 :: u110 :: u111 :: u112 :: u113 :: u114 :: u115 :: u116 :: u117 :: u118 :: u119 :: u120 :: u121 :: u122 :: u123 :: u124 :: u125 :: u126 :: u127 :: u128 :: u129 :: u130 :: u131 :: u132 :: u133 :: u134 :: u135 :: u136 :: u137 :: u138 :: u139 :: u140 :: u141 :: u142 :: u143 :: u144 :: u145 :: u146 :: u147 :: u148 :: u149 :: u150 :: u151 :: u152 :: u153 :: u154 :: u155 :: u156 :: u157 :: u158 :: u159 :: u160 :: u161 :: u162 :: u163 :: u164 :: u165 :: u166 :: u167 :: u168 :: u169 :: u170 :: u171 :: u172 :: u173 :: u174 :: u175 :: u176 :: u177 :: v178 :: v179 :: v180 :: v181 :: v182 :: v183 :: v184 :: v185 :: v186 :: v187 :: v188 :: v189 :: v190 :: v191 :: u192 :: u193 :: u194 :: u195 :: u196 :: u197 :: u198 :: u199 :: u200 :: u201 :: u202 :: u203 :: u204 :: u205 :: u206 :: u207 :: u208 :: u209 :: u210 :: u211 :: u212 :: u213 :: u214 :: u215 :: u216 :: u217 :: u218 :: u219 :: []), []⟩ w') : Code.wp Try.prog (tr89 39) (Exit.then K0 Q) ⟨List.toArray (.slice (some ⟨g, 0, none⟩) L cap :: .int .i64 (a : Int) :: .int .i64 (m : Int) :: .int .i64 (b : Int) :: .func (.func 57) #[] #[.pointer (some ⟨bx, 0, none⟩)] :: u5 :: u6 :: u7 :: u8 :: u9 :: u10 :: u11 :: u12 :: u13 :: u14 :: u15 :: u16 :: u17 :: .int .i64 (mid : Int) :: u19 :: .int .i64 (s : Int) :: u21 :: u22 :: u23 :: .int .i64 (fin : Int) :: u25 :: u26 :: u27 :: u28 :: u29 :: u30 :: u31 :: u32 :: u33 :: u34 :: u35 :: u36 :: u37 :: u38 :: u39 :: u40 :: u41 :: u42 :: u43 :: u44 :: u45 :: u46 :: u47 :: u48 :: u49 :: u50 :: u51 :: u52 :: u53 :: u54 :: u55 :: u56 :: u57 :: u58 :: u59 :: u60 :: u61 :: u62 :: u63 :: u64 :: u65 :: u66 :: u67 :: u68 :: u69 :: u70 :: u71 :: u72 :: u73 :: u74 :: u75 :: u76 :: u77 :: u78 :: u79 :: u80 :: u81 :: u82 :: u83 :: u84 :: u85 :: u86 :: u87 :: u88 :: u89 :: u90 :: u91 :: u92 :: u93 :: u94 :: u95 :: u96 :: u97 :: u98 :: u99 :: u100 :: u101 :: u102 :: u103 :: u104 :: u105 :: u106 :: u107 :: u108 :: u109 :: u110 :: u111 :: u112 :: u113 :: u114 :: u115 :: u116 :: u117 :: u118 :: u119 :: u120 :: u121 :: u122 :: u123 :: u124 :: u125 :: u126 :: u127 :: u128 :: u129 :: u130 :: u131 :: u132 :: u133 :: u134 :: u135 :: u136 :: u137 :: u138 :: u139 :: u140 :: u141 :: u142 :: u143 :: u144 :: u145 :: u146 :: u147 :: u148 :: u149 :: u150 :: u151 :: u152 :: u153 :: u154 :: u155 :: u156 :: u157 :: u158 :: u159 :: u160 :: u161 :: u162 :: u163 :: u164 :: u165 :: u166 :: u167 :: u168 :: u169 :: u170 :: u171 :: u172 :: u173 :: u174 :: u175 :: u176 :: u177 :: u178 :: u179 :: u180 :: u181 :: u182 :: u183 :: u184 :: u185 :: u186 :: u187 :: u188 :: u189 :: u190 :: u191 :: u192 :: u193 :: u194 :: u195 :: u196 :: u197 :: u198 :: u199 :: u200 :: u201 :: u202 :: u203 :: u204 :: u205 :: u206 :: u207 :: u208 :: u209 :: u210 :: u211 :: u212 :: u213 :: u214 :: u215 :: u216 :: u217 :: u218 :: u219 :: []), []⟩ wr := by
  have HF := Lib.hid hfin
  clear hfin
  conv => arg 2; whnf
  go_cut [185] from 178 to 185 (fun v wx => ∃ t : Bool, v = .bool t ∧ Hid (if t then s < m ∧ m < fin else ¬ (s < m ∧ m < fin)) ∧ Hid (wx = wr))
  case first =>
    by_cases h1 : s < m
    · have i1 : (s : Int) < (m : Int) := by omega
      by_cases h2 : m < fin
      · have i2 : (m : Int) < (fin : Int) := by omega
        have X := Lib.hid (show if true = true then s < m ∧ m < fin else ¬ (s < m ∧ m < fin) from ⟨h1, h2⟩)
        go_wp2
        go_meet
        exact ⟨true, rfl, X, Lib.hid rfl⟩
      · have i2 : ¬ (m : Int) < (fin : Int) := by omega
        have X := Lib.hid (show if false = true then s < m ∧ m < fin else ¬ (s < m ∧ m < fin) from fun h => h2 h.2)
        go_wp2
        go_meet
        exact ⟨false, rfl, X, Lib.hid rfl⟩
    · have i1 : decide ((s : Int) < (m : Int)) = false := decide_eq_false (by omega)
      have X := Lib.hid (show if false = true then s < m ∧ m < fin else ¬ (s < m ∧ m < fin) from fun h => h1 h.1)
      go_wp2
      go_meet
      exact ⟨false, rfl, X, Lib.hid rfl⟩
  case rest =>
  obtain ⟨t, rfl, ht, hw⟩ := hcut
  obtain rfl := hw.out.symm
  clear hw
  refine hK0 _ _ ?_
  conv => arg 2; whnf
  cases t with
  | true =>
    obtain ⟨i1, i2⟩ : s < m ∧ m < fin := ht.out
    go_wp2_with fail
    go_at_call 90
    refine (c90 g cap s m fin _ (A ++ S1) S2 R1 (R2 ++ Z) wr L (by simpa using HQ.out.1) (by rw [← HLL.out]; simp) hs (by have := K.out; rw [List.length_append]; omega) (by have := K.out; omega) (by have := K.out; omega) (by have := K.out; omega) (by have := K.out; omega)).mono fun e w' ⟨he, h8, h9⟩ => ?_
    subst he
    have HQ2 := Lib.hid (show DAt w' g (A ++ (S1 ++ (R1 ++ (S2 ++ (R2 ++ Z))))) ∧ Only g w w' from ⟨by simpa using h8, HQ.out.2.trans h9⟩)
    clear h8 h9
    go_wp2
    exact HF.out _ _ _ _ _ _ _ _ _ _ _ _ _ _ _ HQ2
  | false =>
    have h : ¬ (s < m ∧ m < fin) := ht.out
    have HQ2 := Lib.hid (show DAt wr g (A ++ (S1 ++ (R1 ++ (S2 ++ (R2 ++ Z))))) ∧ Only g w wr by
      have T := HQ.out
      have := K.out
      by_cases h1 : s < m
      · have e : R1 = [] := List.length_eq_zero_iff.1 (by omega)
        rw [e] at T ⊢
        exact T
      · have e : S2 = [] := List.length_eq_zero_iff.1 (by omega)
        rw [e] at T ⊢
        exact T)
    go_wp2
    exact HF.out _ _ _ _ _ _ _ _ _ _ _ _ _ _ _ HQ2
set_option maxRecDepth 100000 in
set_option maxHeartbeats 2000000 in
theorem c89c (N : Nat) (ih : MergeAt N) (g cap bx ga n c a m b : Nat) (lv : Nat → Nat) (A S R Z : List Nat) (w : World) (L : Nat) (hN : S.length + R.length ≤ N + 1) (hE : SE w g bx ga n c lv) (hd : DAt w g (A ++ (S ++ (R ++ Z)))) (hnS : ∀ x ∈ S, x < n) (hnR : ∀ x ∈ R, x < n)
    (hL : (A ++ (S ++ (R ++ Z))).length = L) (hs : L ≤ 1099511627776) (ha : A.length = a) (hm : m = a + S.length) (hb : b = m + R.length) (h1 : 2 ≤ S.length) (h2 : 2 ≤ R.length) (hS : Sd (kf lv) S) (hR : Sd (kf lv) R) :
    Calls Try.prog 89 #[.slice (some ⟨g, 0, none⟩) L cap, .int .i64 (a : Int), .int .i64 (m : Int), .int .i64 (b : Int), .func (.func 57) #[] #[.pointer (some ⟨bx, 0, none⟩)]] w
      fun e w' => e = .returned (.tuple #[]) ∧ DAt w' g (A ++ (mg (kf lv) S R ++ Z)) ∧ Only g w w' := by
  have hbL : b ≤ L := by rw [← hL]; simp only [List.length_append]; omega
  have ham : a + 2 ≤ m := by omega
  have hmb : m + 2 ≤ b := by omega
  have e1 : ¬ (m : Int) - (a : Int) = 1 := by omega
  have e2 : ¬ (b : Int) - (m : Int) = 1 := by omega
  obtain ⟨mid, emid⟩ : ∃ mid, mid = (a + b) / 2 := ⟨_, rfl⟩
  have hmid := half a b
  rw [← emid] at hmid
  have ma : a < mid := by omega
  have mb : mid < b := by omega
  obtain ⟨s0, r0, hsr⟩ : ∃ s0 r0, (mid < m ∧ s0 = mid + m - b ∧ r0 = mid) ∨ (m ≤ mid ∧ s0 = a ∧ r0 = m) := by
    by_cases h : mid < m
    · exact ⟨_, _, Or.inl ⟨h, rfl, rfl⟩⟩
    · exact ⟨_, _, Or.inr ⟨by omega, rfl, rfl⟩⟩
  have HE := Lib.hid hE
  have HNS := Lib.hid hnS
  have HNR := Lib.hid hnR
  have HD := Lib.hid hd
  have HB := Lib.hid (And.intro ha (And.intro hm (And.intro hb (And.intro h1 h2))))
  have HS := Lib.hid hS
  have HR := Lib.hid hR
  have HM := Lib.hid emid
  have HSR := Lib.hid hsr
  have HL := Lib.hid hL
  have IH := Lib.hid ih
  have HN := Lib.hid hN
  have q1 : a ≤ s0 := by omega
  have q2 : s0 ≤ r0 := by omega
  have q3 : r0 ≤ m := by omega
  clear hE hnS hnR hd ha hm hb hS hR h1 h2 emid hsr hL ih hN
  go_enter Try.func89, Try.ntmps89
  go_upto_if 140 with fail
  go_cut [20, 21] (fun ss rr wx => ss = .int .i64 (s0 : Int) ∧ rr = .int .i64 (r0 : Int) ∧ Hid (wx = w))
  case first =>
    rcases HSR.out with ⟨h, hs0, hr0⟩ | ⟨h, hs0, hr0⟩
    · have hi : (mid : Int) < (m : Int) := by omega
      have he : (mid : Int) + (m : Int) - (b : Int) = (s0 : Int) := by omega
      subst hr0
      clear hs0
      go_wp2
      go_meet
      exact ⟨rfl, rfl, Lib.hid rfl⟩
    · have hi : ¬ (mid : Int) < (m : Int) := by omega
      subst hs0 hr0
      go_wp2
      go_meet
      exact ⟨rfl, rfl, Lib.hid rfl⟩
  case rest =>
  obtain ⟨rfl, rfl, hc⟩ := hcut
  obtain rfl := hc.out.symm
  clear hc
  go_wp2_with fail
  go_loopw [20, 21] (fun ss rr wx => ∃ s r : Nat, ss = .int .i64 (s : Int) ∧ rr = .int .i64 (r : Int) ∧ s0 ≤ s ∧ s ≤ r ∧ r ≤ r0 ∧ Hid (SY (kf lv) S R a m (mid + m) s0 r0 s r) ∧ Hid (DAt wx g (A ++ (S ++ (R ++ Z))) ∧ Only g w wx)) (fun ss rr _ => (intOf rr).toNat - (intOf ss).toNat)
  case atStart => exact ⟨s0, r0, rfl, rfl, Nat.le_refl _, q2, Nat.le_refl _, Lib.hid ⟨Or.inl rfl, Or.inl rfl⟩, Lib.hid ⟨HD.out, Only.refl _ _⟩⟩
  case round =>
    obtain ⟨s, r, rfl, rfl, hs0, hsr, hr0, hI, hq⟩ := hrel
    by_cases hlt : s < r
    · have hh := half s r
      obtain ⟨h, eh⟩ : ∃ h, h = (s + r) / 2 := ⟨_, rfl⟩
      rw [← eh] at hh
      have hih : s ≤ h := by omega
      have hhj : h < r := by omega
      obtain ⟨l1, l2, l3, l4, l5⟩ : h - a < S.length ∧ m ≤ mid + m - 1 - h ∧ mid + m - 1 - h - m < R.length ∧ h < m ∧ mid + m - 1 - h < b := by
        obtain ⟨b1, b2, b3, b4, b5⟩ := HB.out
        have := HM.out
        have := HSR.out
        clear HM HSR hh
        omega
      obtain ⟨x, ex⟩ : ∃ x, S[h - a]? = some x := ⟨_, List.getElem?_eq_getElem l1⟩
      obtain ⟨y, ey⟩ : ∃ y, R[mid + m - 1 - h - m]? = some y := ⟨_, List.getElem?_eq_getElem l3⟩
      have cx := hq.out.1.get (j := h) (x := x) (get_in ex (by have := HB.out; omega))
      have cy := hq.out.1.get (j := mid + m - 1 - h) (x := y) (by
        obtain ⟨b1, b2, b3, b4, b5⟩ := HB.out
        rw [← List.append_assoc]
        exact get_in ey (by rw [List.length_append]; omega))
      have hxn := HNS.out x (List.mem_of_getElem? ex)
      have hyn := HNR.out y (List.mem_of_getElem? ey)
      have epc : (mid : Int) + (m : Int) - 1 - (h : Int) = ((mid + m - 1 - h : Nat) : Int) := by omega
      have hhL : (h : Int) < (L : Int) := by omega
      have hpL : ((mid + m - 1 - h : Nat) : Int) < (L : Int) := by omega
      have CL := Lib.hid (fun r => quiet57 (q := r) (HE.out.only hq.out.2) y x hyn hxn)
      have UP := Lib.hid (show kf lv x ≤ kf lv y → SY (kf lv) S R a m (mid + m) s0 r0 (h + 1) r from fun hk => ⟨Or.inr ⟨x, y, by rw [Nat.add_sub_cancel]; exact ex, by rw [show mid + m - (h + 1) - m = mid + m - 1 - h - m by omega]; exact ey, hk⟩, hI.out.2⟩)
      have DN := Lib.hid (show kf lv y < kf lv x → SY (kf lv) S R a m (mid + m) s0 r0 s h from fun hk => ⟨hI.out.1, Or.inr ⟨x, y, ex, ey, hk⟩⟩)
      have EH := Lib.hid eh
      have c3 := @cmp3_lt (kf lv y) (kf lv x)
      clear eh ex ey l1 l2 l3 l4 l5
      generalize hpc : mid + m - 1 - h = pc at *
      have HPC := Lib.hid hpc
      clear hpc
      generalize kf lv y = ky at *
      generalize kf lv x = kx at *
      go_upto_region 35 with fail
      go_quiet ((go_at_call 57; exact CL.out _))
      go_wp2_with fail
      · have hl : ¬ ky < kx := by
          have h : (!decide (ky < kx)) = true := by assumption
          simpa using h
        go_roundw
        case rel => exact ⟨h + 1, r, by go_num, rfl, by omega, by omega, hr0, Lib.hid (UP.out (by omega)), Lib.hid ⟨hq.out.1.drew, hq.out.2.drewN⟩⟩
        case measure => simp [intOf]; omega
      · have hl : ky < kx := by
          have h : (!decide (ky < kx)) = false := by assumption
          simpa using h
        go_roundw
        case rel => exact ⟨s, h, rfl, rfl, hs0, hih, by omega, Lib.hid (DN.out hl), Lib.hid ⟨hq.out.1.drew, hq.out.2.drewN⟩⟩
        case measure => simp [intOf]; omega
    · have hsr : s = r := by omega
      subst hsr
      obtain ⟨fin, efin⟩ : ∃ fin, fin = mid + m - s := ⟨_, rfl⟩
      have hfin : (mid : Int) + (m : Int) - (s : Int) = (fin : Int) := by omega
      obtain ⟨k1, k2, k3, k4, k5⟩ : a ≤ s ∧ s ≤ m ∧ m ≤ fin ∧ fin ≤ b ∧ s ≤ mid := by
        obtain ⟨b1, b2, b3, b4, b5⟩ := HB.out
        have := HM.out
        have := HSR.out
        clear HM HSR hfin
        omega
      obtain ⟨S1, S2, eS, lS1, lS2⟩ := split_at S (s - a) (by have := HB.out; omega)
      obtain ⟨R1, R2, eR, lR1, lR2⟩ := split_at R (fin - m) (by have := HB.out; omega)
      have hle : ∀ x ∈ S1, ∀ y ∈ R2, kf lv x ≤ kf lv y := by
        have := cut_le HS.out HR.out (s - a) (fin - m) (by
          rcases hI.out.1 with h | ⟨x, y, h1, h2, h3⟩
          · obtain ⟨b1, b2, b3, b4, b5⟩ := HB.out
            rcases HSR.out with ⟨g1, g2, g3⟩ | ⟨g1, g2, g3⟩
            · exact Or.inr (Or.inl (by omega))
            · exact Or.inl (by omega)
          · exact Or.inr (Or.inr ⟨x, y, by rw [show s - a - 1 = s - 1 - a by omega]; exact h1, by rw [efin]; exact h2, h3⟩))
        rwa [eS, List.take_left' lS1, eR, List.drop_left' lR1] at this
      have hlt2 : ∀ y ∈ R1, ∀ x ∈ S2, kf lv y < kf lv x := by
        have := cut_lt HS.out HR.out (s - a) (fin - m) (by
          rcases hI.out.2 with h | ⟨x, y, h1, h2, h3⟩
          · obtain ⟨b1, b2, b3, b4, b5⟩ := HB.out
            rcases HSR.out with ⟨g1, g2, g3⟩ | ⟨g1, g2, g3⟩
            · exact Or.inr (Or.inl (by omega))
            · exact Or.inl (by omega)
          · exact Or.inr (Or.inr ⟨x, y, h1, by rw [show fin - m - 1 = mid + m - 1 - s - m by omega]; exact h2, h3⟩))
        rwa [eS, List.drop_left' lS1, eR, List.take_left' lR1] at this
      have MS := Lib.hid (mg_split (kf lv) S1 S2 R1 R2 hle hlt2)
      clear hle hlt2 hI HSR q2 q3
      subst eS eR
      have KK := Lib.hid (show A.length = a ∧ S1.length = s - a ∧ R1.length = fin - m ∧ S2.length = m - s ∧ R2.length = b - fin ∧ fin = mid + m - s from by have := HB.out; simp only [List.length_append] at *; omega)
      have HI := Lib.hid (show (s - a) + (fin - m) ≤ N ∧ (m - s) + (b - fin) ≤ N by have := HB.out; have := HN.out; simp only [List.length_append] at *; omega)
      have SS1 := Lib.hid (Sd.append_left (kf lv) HS.out)
      have SS2 := Lib.hid (Sd.append_right (kf lv) HS.out)
      have SR1 := Lib.hid (Sd.append_left (kf lv) HR.out)
      have SR2 := Lib.hid (Sd.append_right (kf lv) HR.out)
      have n1 := Lib.hid (fun x h => HNS.out x (List.mem_append_left _ h))
      have n2 := Lib.hid (fun x h => HNS.out x (List.mem_append_right _ h))
      have n3 := Lib.hid (fun x h => HNR.out x (List.mem_append_left _ h))
      have n4 := Lib.hid (fun x h => HNR.out x (List.mem_append_right _ h))
      have HQ := Lib.hid (show DAt wr g (A ++ (S1 ++ (S2 ++ (R1 ++ (R2 ++ Z))))) ∧ Only g w wr from ⟨by simpa using hq.out.1, hq.out.2⟩)
      have HLL := Lib.hid (show (A ++ (S1 ++ (S2 ++ (R1 ++ (R2 ++ Z))))).length = L by rw [← HL.out]; simp)
      clear hq lS1 lS2 lR1 lR2 HD HL HS HR HNS HNR HB HN e1 e2 efin
      go_upto_region 39 with fail
      refine tail39 (by assumption) N g cap bx ga n c a m b mid s fin L lv A S1 S2 R1 R2 Z w wr _ _ _ _ _ _ _ _ _ _ _ _ _ _ _ _ _ _ _ _ _ _ _ _ _ _ _ _ _ _ _ _ _ _ _ _ _ _ _ _ _ _ _ _ _ _ _ _ _ _ _ _ _ _ _ _ _ _ _ _ _ _ _ _ _ _ _ _ _ _ _ _ _ _ _ _ _ _ _ _ _ _ _ _ _ _ _ _ _ _ _ _ _ _ _ _ _ _ _ _ _ _ _ _ _ _ _ _ _ _ _ _ _ _ _ _ _ _ _ _ _ _ _ _ _ _ _ _ _ _ _ _ _ _ _ _ _ _ _ _ _ _ _ _ _ _ _ _ _ _ _ _ _ _ _ _ _ _ _ _ _ _ _ _ _ _ _ _ _ _ _ _ _ _ _ _ _ _ _ _ _ _ _ _ _ _ _ _ _ _ _ _ _ _ _ _ _ _ _ _ _ _ _ _ _ _ _ _ _ _ _ _ ham hmb hbL hs ma mb k1 k2 k3 k4 k5 KK HLL IH HE HI SS1 SS2 SR1 SR2 n1 n2 n3 n4 HQ (fun v178 v179 v180 v181 v182 v183 v184 v185 v186 v187 v188 v189 v190 v191 w2 HQ2 => ?_)
      go_upto_region 41 with fail
      refine tail41 (by assumption) N g cap bx ga n c a m b mid s fin L lv A S1 S2 R1 R2 Z w w2 _ _ _ _ _ _ _ _ _ _ _ _ _ _ _ _ _ _ _ _ _ _ _ _ _ _ _ _ _ _ _ _ _ _ _ _ _ _ _ _ _ _ _ _ _ _ _ _ _ _ _ _ _ _ _ _ _ _ _ _ _ _ _ _ _ _ _ _ _ _ _ _ _ _ _ _ _ _ _ _ _ _ _ _ _ _ _ _ _ _ _ _ _ _ _ _ _ _ _ _ _ _ _ _ _ _ _ _ _ _ _ _ _ _ _ _ _ _ _ _ _ _ _ _ _ _ _ _ _ _ _ _ _ _ _ _ _ _ _ _ _ _ _ _ _ _ _ _ _ _ _ _ _ _ _ _ _ _ _ _ _ _ _ _ _ _ _ _ _ _ _ _ _ _ _ _ _ _ _ _ _ _ _ _ _ _ _ _ _ _ _ _ _ _ _ _ _ _ _ _ _ _ _ _ _ _ _ _ _ _ _ _ ham hmb hbL hs ma mb k1 k2 k3 k4 k5 KK HLL IH HE HI SS1 SS2 SR1 SR2 n1 n2 n3 n4 HQ2 (fun v192 v193 v194 v195 v196 v197 v198 v199 v200 v201 v202 v203 v204 v205 w3 HQ3 => ?_)
      go_upto_region 43 with fail
      refine tail43 (by assumption) N g cap bx ga n c a m b mid s fin L lv A S1 S2 R1 R2 Z w w3 _ _ _ _ _ _ _ _ _ _ _ _ _ _ _ _ _ _ _ _ _ _ _ _ _ _ _ _ _ _ _ _ _ _ _ _ _ _ _ _ _ _ _ _ _ _ _ _ _ _ _ _ _ _ _ _ _ _ _ _ _ _ _ _ _ _ _ _ _ _ _ _ _ _ _ _ _ _ _ _ _ _ _ _ _ _ _ _ _ _ _ _ _ _ _ _ _ _ _ _ _ _ _ _ _ _ _ _ _ _ _ _ _ _ _ _ _ _ _ _ _ _ _ _ _ _ _ _ _ _ _ _ _ _ _ _ _ _ _ _ _ _ _ _ _ _ _ _ _ _ _ _ _ _ _ _ _ _ _ _ _ _ _ _ _ _ _ _ _ _ _ _ _ _ _ _ _ _ _ _ _ _ _ _ _ _ _ _ _ _ _ _ _ _ _ _ _ _ _ _ _ _ _ _ _ _ _ _ _ _ _ _ ham hmb hbL hs ma mb k1 k2 k3 k4 k5 KK HLL IH HE HI SS1 SS2 SR1 SR2 n1 n2 n3 n4 HQ3 (fun v206 v207 v208 v209 v210 v211 v212 v213 v214 v215 v216 v217 v218 v219 w4 HQ4 => ?_)
      refine bodyPost_end (v := .tuple #[]) (results_none rfl _ _ _) rfl ?_
      refine ⟨rfl, ?_⟩
      rw [MS.out, List.append_assoc]
      exact HQ4.out
theorem c89 : ∀ N, MergeAt N := fun N => by
  induction N with
  | zero => intro g cap bx ga n c a m b lv A S R Z w L hN hE hd hnS hnR hL hs ha hm hb h1 h2; omega
  | succ N ih =>
    intro g cap bx ga n c a m b lv A S R Z w L hN hE hd hnS hnR hL hs ha hm hb h1 h2 hS hR
    by_cases l1 : S.length = 1
    · obtain ⟨x, t, rfl, ht⟩ := cons_of_len (n := 0) l1
      have : t = [] := List.length_eq_zero_iff.1 ht
      subst this
      exact c89a g cap bx ga n c a m b x lv A R Z w L hE hd (hnS x (List.mem_singleton.2 rfl)) hnR hL hs ha hm hb hR
    · by_cases l2 : R.length = 1
      · obtain ⟨x, t, rfl, ht⟩ := cons_of_len (n := 0) l2
        have : t = [] := List.length_eq_zero_iff.1 ht
        subst this
        exact c89b g cap bx ga n c a m b x lv A S Z w L hE hd (hnR x (List.mem_singleton.2 rfl)) hnS hL hs ha hm hb (by omega) hS
      · exact c89c N ih g cap bx ga n c a m b lv A S R Z w L hN hE hd hnS hnR hL hs ha hm hb (by omega) (by omega) hS hR
end Go.Proofs.Ytedkbjimofiphaa

namespace Go.Proofs.Ytedkbjimofiphaa
section
variable (n : Nat) (ab : Nat → Option Nat) (key : Nat → Int)
def kids (p : Option Nat) : List Nat := (List.range n).filter (fun i => ab i == p)
def sub : Nat → Nat → List Nat
  | 0, i => [i]
  | f + 1, i => i :: (stab key (kids n ab (some i))).flatMap (sub f)
/-- all beneath one -/
def tr (i : Nat) : List Nat := sub n ab key n i
def whole : List Nat := (stab key (kids n ab none)).flatMap (tr n ab key)
variable {n ab key}
theorem mem_kids {p : Option Nat} {x : Nat} : x ∈ kids n ab p ↔ x < n ∧ ab x = p := by
  unfold kids; rw [List.mem_filter, List.mem_range, beq_iff_eq]
theorem mem_stab {l : List Nat} {x : Nat} : x ∈ stab key l ↔ x ∈ l := (stab_perm key l).mem_iff
theorem kids_nodup (p : Option Nat) : (kids n ab p).Nodup := List.nodup_range.filter _
theorem stab_nodup {l : List Nat} (h : l.Nodup) : (stab key l).Nodup := (stab_perm key l).nodup_iff.2 h
theorem flatMap_same {l : List Nat} {f g : Nat → List Nat} (h : ∀ x ∈ l, f x = g x) : l.flatMap f = l.flatMap g := by
  induction l with
  | nil => rfl
  | cons x l ih => rw [List.flatMap_cons, List.flatMap_cons, h x (List.mem_cons_self ..), ih fun y hy => h y (List.mem_cons_of_mem _ hy)]
variable (H : ∀ i k, i < n → ab i = some k → k < i)
include H
theorem sub_fuel (f : Nat) : ∀ i, n ≤ i + 1 + f → sub n ab key (f + 1) i = sub n ab key f i := by
  induction f with
  | zero =>
    intro i hi
    have e : kids n ab (some i) = [] := List.eq_nil_iff_forall_not_mem.2 fun x hx => by
      have := mem_kids.1 hx
      have := H x i this.1 this.2
      omega
    show i :: _ = [i]
    rw [e]; rfl
  | succ f ih =>
    intro i hi
    show i :: _ = i :: _
    rw [flatMap_same fun x hx => ?_]
    have hx := mem_kids.1 (mem_stab.1 hx)
    have := H x i hx.1 hx.2
    exact ih x (by omega)
theorem tr_step (i : Nat) : tr n ab key i = i :: (stab key (kids n ab (some i))).flatMap (tr n ab key) := by
  unfold tr
  rw [← sub_fuel H n i (by omega)]
  rfl
omit H in
theorem tr_infix {l : List Nat} {x : Nat} (hx : x ∈ l) : ∃ P Q, l.flatMap (tr n ab key) = P ++ tr n ab key x ++ Q := by
  obtain ⟨A, B, rfl⟩ := List.append_of_mem hx
  exact ⟨A.flatMap _, B.flatMap _, by rw [List.flatMap_append, List.flatMap_cons, List.append_assoc]⟩
theorem tr_under {i x : Nat} (hx : x < n) (ha : ab x = some i) : ∃ P Q, tr n ab key i = i :: (P ++ tr n ab key x ++ Q) := by
  rw [tr_step H i]
  obtain ⟨P, Q, e⟩ := tr_infix (n := n) (ab := ab) (key := key) (mem_stab.2 (mem_kids.2 ⟨hx, ha⟩))
  exact ⟨P, Q, by rw [e]⟩
theorem whole_infix (x : Nat) (hx : x < n) : ∃ P Q, whole n ab key = P ++ tr n ab key x ++ Q := by
  induction x using Nat.strongRecOn with
  | ind x ih =>
    cases ha : ab x with
    | none => exact tr_infix (mem_stab.2 (mem_kids.2 ⟨hx, ha⟩))
    | some k =>
      have hk := H x k hx ha
      obtain ⟨P, Q, e⟩ := ih k hk (by omega)
      obtain ⟨P', Q', e'⟩ := tr_under H (key := key) hx ha
      exact ⟨P ++ k :: P', Q' ++ Q, by rw [e, e']; simp⟩
theorem tr_self (x : Nat) : x ∈ tr n ab key x := by rw [tr_step H x]; exact List.mem_cons_self ..
theorem whole_mem (x : Nat) (hx : x < n) : x ∈ whole n ab key := by
  obtain ⟨P, Q, e⟩ := whole_infix H (key := key) x hx
  rw [e]
  exact List.mem_append_left _ (List.mem_append_right _ (tr_self H x))
omit H in
/-- an ancestor, or it itself -/
inductive Up (n : Nat) (ab : Nat → Option Nat) (i : Nat) : Nat → Prop
  | self : Up n ab i i
  | step {x k : Nat} : x < n → ab x = some k → Up n ab i k → Up n ab i x
theorem Up.le {i x : Nat} (h : Up n ab i x) : i ≤ x := by
  induction h with
  | self => exact Nat.le_refl _
  | step hx ha _ ih => have := H _ _ hx ha; omega
omit H in
theorem Up.lt {i x : Nat} (h : Up n ab i x) (hi : i < n) : x < n := by
  cases h with
  | self => exact hi
  | step hx _ _ => exact hx
omit H in
theorem Up.trans {i k x : Nat} (h : Up n ab i k) (h2 : Up n ab k x) : Up n ab i x := by
  induction h2 with
  | self => exact h
  | step hx ha _ ih => exact .step hx ha ih
omit H in
theorem Up.line {i k x : Nat} (h : Up n ab i x) (h2 : Up n ab k x) : Up n ab i k ∨ Up n ab k i := by
  induction h generalizing k with
  | self => exact Or.inr h2
  | step hx ha hi ih =>
    cases h2 with
    | self => exact Or.inl (.step hx ha hi)
    | step hx2 ha2 hk =>
      rw [ha] at ha2
      cases ha2
      exact ih hk
omit H in
theorem mem_sub {f i x : Nat} : x ∈ sub n ab key f i → Up n ab i x := by
  induction f generalizing i with
  | zero => intro h; rw [sub, List.mem_singleton] at h; exact h ▸ .self
  | succ f ih =>
    intro h
    rw [sub, List.mem_cons, List.mem_flatMap] at h
    rcases h with rfl | ⟨y, hy, hx⟩
    · exact .self
    · have hy := mem_kids.1 (mem_stab.1 hy)
      exact (Up.step hy.1 hy.2 .self).trans (ih hx)
theorem Up.infix {i x : Nat} (h : Up n ab i x) : ∃ P Q, tr n ab key i = P ++ tr n ab key x ++ Q := by
  induction h with
  | self => exact ⟨[], [], by simp⟩
  | @step x k hx ha _ ih =>
    obtain ⟨P, Q, e⟩ := ih
    obtain ⟨P', Q', e'⟩ := tr_under H (key := key) hx ha
    exact ⟨P ++ k :: P', Q' ++ Q, by rw [e, e']; simp⟩
theorem mem_tr {i x : Nat} : x ∈ tr n ab key i ↔ Up n ab i x :=
  ⟨mem_sub, fun h => by
    obtain ⟨P, Q, e⟩ := h.infix H (key := key)
    rw [e]
    exact List.mem_append_left _ (List.mem_append_right _ (tr_self H x))⟩
theorem sibs {p : Option Nat} {c d x : Nat} (hc : c < n) (hd : d < n) (ec : ab c = p) (ed : ab d = p) (h : Up n ab c x) (h2 : Up n ab d x) : c = d := by
  have side : ∀ {c d : Nat}, c < n → ab c = p → d < n → ab d = p → Up n ab c d → c = d := fun {c d} hc ec hd ed h => by
    cases h with
    | self => rfl
    | @step _ k _ ha hk =>
      rw [ed] at ha
      subst ha
      have := H c k hc ec
      have := hk.le H
      omega
  rcases h.line h2 with h | h
  · exact side hc ec hd ed h
  · exact (side hd ed hc ec h).symm
omit H in
theorem flat_nodup {l : List Nat} {g : Nat → List Nat} (h : l.Nodup) (h1 : ∀ x ∈ l, (g x).Nodup) (h2 : ∀ x ∈ l, ∀ y ∈ l, ∀ z, z ∈ g x → z ∈ g y → x = y) : (l.flatMap g).Nodup := by
  induction l with
  | nil => exact List.nodup_nil
  | cons x l ih =>
    rw [List.flatMap_cons, List.nodup_append]
    have hn := List.nodup_cons.1 h
    refine ⟨h1 x (List.mem_cons_self ..), ih hn.2 (fun y hy => h1 y (List.mem_cons_of_mem _ hy)) (fun y hy z hz => h2 y (List.mem_cons_of_mem _ hy) z (List.mem_cons_of_mem _ hz)), ?_⟩
    intro a ha b hb e
    subst e
    obtain ⟨y, hy, hay⟩ := List.mem_flatMap.1 hb
    have := h2 x (List.mem_cons_self ..) y (List.mem_cons_of_mem _ hy) a ha hay
    subst this
    exact hn.1 hy
theorem row_nodup {p : Option Nat} (h : ∀ x ∈ kids n ab p, (tr n ab key x).Nodup) : ((stab key (kids n ab p)).flatMap (tr n ab key)).Nodup :=
  flat_nodup (stab_nodup (kids_nodup p)) (fun x hx => h x (mem_stab.1 hx)) fun x hx y hy z hz hz2 =>
    have hx := mem_kids.1 (mem_stab.1 hx)
    have hy := mem_kids.1 (mem_stab.1 hy)
    sibs H hx.1 hy.1 hx.2 hy.2 ((mem_tr H).1 hz) ((mem_tr H).1 hz2)
theorem tr_nodup (d : Nat) : ∀ i, n ≤ i + d → (tr n ab key i).Nodup := by
  induction d with
  | zero =>
    intro i hi
    have e : kids n ab (some i) = [] := List.eq_nil_iff_forall_not_mem.2 fun x hx => by
      have := mem_kids.1 hx
      have := H x i this.1 this.2
      omega
    rw [tr_step H, e]
    exact List.nodup_cons.2 ⟨List.not_mem_nil, List.nodup_nil⟩
  | succ d ih =>
    intro i hi
    rw [tr_step H, List.nodup_cons]
    refine ⟨fun h => ?_, row_nodup H fun x hx => ?_⟩
    · obtain ⟨y, hy, hi⟩ := List.mem_flatMap.1 h
      have hy := mem_kids.1 (mem_stab.1 hy)
      have := H y i hy.1 hy.2
      have := ((mem_tr H).1 hi).le H
      omega
    · have hx := mem_kids.1 hx
      have := H x i hx.1 hx.2
      exact ih x (by omega)
theorem whole_nodup : (whole n ab key).Nodup := row_nodup H fun x _ => tr_nodup H n x (by omega)
theorem mem_whole {x : Nat} : x ∈ whole n ab key ↔ x < n := by
  refine ⟨fun h => ?_, whole_mem H x⟩
  obtain ⟨y, hy, hx⟩ := List.mem_flatMap.1 h
  exact ((mem_tr H).1 hx).lt (mem_kids.1 (mem_stab.1 hy)).1
theorem whole_perm : (whole n ab key).Perm (List.range n) :=
  (List.perm_ext_iff_of_nodup (whole_nodup H) List.nodup_range).2 fun x => by rw [mem_whole H, List.mem_range]
theorem whole_length : (whole n ab key).length = n := by rw [(whole_perm H).length_eq, List.length_range]
end
end Go.Proofs.Ytedkbjimofiphaa
