/- The walk of SumsWhole. Arguments that are slices of ints or bools, opened. -/
import Derived.Test.YtelalledjbeenaaOpenF
import Derived.Test.YtelalledjbeenaaMgSumL
import Derived.Deep.CutBlock
import Derived.Deep.DeepCutAuto
namespace Go.Proofs.Ytelalledjbeenaa
open Go.RowKit Fl

theorem CS.below {w w' : World} {A : Option Addr} {l : List Value} (h : CS w A l) (hb : Below w.heap.size w w') : CS w' A l := by
  rcases h with h | ⟨b, o, h1, h2, h3⟩
  · exact .inl h
  · exact .inr ⟨b, o, h1, Nat.lt_of_lt_of_le h2 hb.size, fun j v hj => (hb.cell (p := ⟨b, o + j, none⟩) h2).trans (h3 j v hj)⟩
theorem CS.at_ {w : World} {A : Option Addr} {l : List Value} {k : Nat} {v : Value} (h : CS w A l) (hk : l[k]? = some v) : ∃ b o, A = some ⟨b, o, none⟩ ∧ w.cell? ⟨b, o + k, none⟩ = some v := by
  rcases h with rfl | ⟨b, o, h1, _, h3⟩
  · simp at hk
  · exact ⟨b, o, h1, h3 k v hk⟩
theorem float_int (n : Int) : floatOfInt .f64 n = wz (n * ONEi) false := by
  show Ieee.double.nearest (decide (n < 0)) n.natAbs 0 = _
  rw [nearest_int]
  unfold wz ONEi
  rw [Int.natAbs_mul, Int.natAbs_natCast, Bool.and_false, Bool.or_false]
  have := one_pos
  congr 1
  rw [decide_eq_decide]
  refine ⟨fun h => ?_, fun h => ?_⟩
  · have h2 := Int.mul_lt_mul_of_pos_right h (show (0 : Int) < (ONE : Int) by omega)
    rwa [Int.zero_mul] at h2
  · by_cases h3 : n < 0
    · exact h3
    · have h3 : 0 ≤ n := by omega
      have := Int.mul_nonneg h3 (show (0 : Int) ≤ (ONE : Int) by omega)
      omega
/-- the number that is appended in round k -/
def elW (zs : List Int) (cs : List Bool) (k : Nat) : Wn := (zs.getD k 0, decide (zs.getD k 0 = 0) && cs.getD k false)
def Wl (zs : List Int) (cs : List Bool) (k : Nat) : List Wn := (List.range k).map (elW zs cs)
theorem Wl_len (zs : List Int) (cs : List Bool) (k : Nat) : (Wl zs cs k).length = k := by simp [Wl]
theorem Wl_succ (zs : List Int) (cs : List Bool) (k : Nat) : Wl zs cs (k + 1) = Wl zs cs k ++ [elW zs cs k] := by simp [Wl, List.range_succ]
theorem mulW_le (l : List Wn) (h : ∀ a ∈ l, a.1.natAbs ≤ 2147483648) : mulW l ≤ l.length * 2147483648 := by
  induction l with
  | nil => simp [mulW]
  | cons a r ih =>
    have h1 := h a (List.mem_cons_self ..)
    have h2 := ih fun b hb => h b (List.mem_cons_of_mem _ hb)
    unfold mulW at *
    rw [List.map_cons, List.sum_cons, List.length_cons]
    omega
theorem whole_law (zs : List Int) (cs : List Bool) (k : Nat) (hk : k ≤ 1048576) (hz : ∀ z ∈ zs, z.natAbs ≤ 2147483648) :
    mulW (Wl zs cs k) ≤ B53 := by
  have h := mulW_le (Wl zs cs k) (fun a ha => by
    obtain ⟨j, _, rfl⟩ := List.mem_map.1 ha
    show (zs.getD j 0).natAbs ≤ _
    rw [List.getD_eq_getElem?_getD]
    cases hj : zs[j]? with
    | none => simp
    | some z => exact hz z (List.mem_of_getElem? hj))
  rw [Wl_len] at h
  unfold B53
  omega
theorem wnt_neg : wnt (0, true) = Op.negFloat .f64 (floatOfInt .f64 0) := by decide +kernel
theorem wnt_pos (z : Int) : wnt (z, false) = floatOfInt .f64 z := (float_int z).symm
theorem fs_of_row {w : World} {B k : Nat} {v : Value} {m : List Nat} (h : w.ownsRow B 24 1 v k (m.map (Value.float .f64))) (hU : ∀ x ∈ m, U x) : ∃ A c, v = .slice A m.length c ∧ FS w A m ∧ m.length ≤ c := by
  have hl : m.length = k := by have := h.1; rw [List.length_map, Nat.mul_one] at this; exact this
  rcases h.2 with ⟨hv, h0⟩ | ⟨g, cap, cur, hv, _, hg, hc, _⟩
  · subst h0
    have : m = [] := List.eq_nil_of_length_eq_zero hl
    subst this
    exact ⟨none, 0, hv, .inl rfl, Nat.le_refl _⟩
  · rw [hl]
    refine ⟨some ⟨g, 0, none⟩, cap, hv, ?_, hc⟩
    subst hv
    by_cases h0 : k = 0
    · left; exact List.eq_nil_of_length_eq_zero (by omega)
    · refine .inr ⟨g, 0, rfl, ⟨fun j x hj => ?_, fun j x hj => hU x (List.mem_of_getElem? hj), ?_⟩⟩
      · have hj' : j < k := by rw [← hl]; exact (List.getElem?_eq_some_iff.1 hj).1
        rw [Nat.zero_add, World.ownsRow.cellAt h j (by omega), List.getElem?_map, hj]; rfl
      · rcases Nat.lt_or_ge g w.heap.size with h1 | h1
        · exact h1
        · rw [Array.getElem?_eq_none h1] at hg; cases hg
theorem new_cell (w : World) (v : Value) : ∀ (j : Nat) (u : Value), [v][j]? = some u → (w.alloc (.cells #[v] 24)).cell? ((⟨w.heap.size, 0, none⟩ : Addr).add j) = some u := by
  intro j u hu
  cases j with
  | zero =>
    simp only [List.getElem?_cons_zero, Option.some.injEq] at hu
    subst hu
    exact (World.cell?_alloc_new w #[v] 24 0).trans rfl
  | succ j => simp at hu
theorem row_next {w : World} {B k u : Nat} {v : Value} {zs : List Int} {cs : List Bool} (h : w.ownsRow B 24 1 v (k + 1) ((Wl zs cs k).map (Value.float .f64 ∘ wnt) ++ [.float .f64 u])) (hu : u = wnt (elW zs cs k)) :
    w.ownsRow B 24 1 v (k + 1) (((Wl zs cs (k + 1)).map wnt).map (Value.float .f64)) := by
  subst hu
  rw [Wl_succ, List.map_append, List.map_append, List.map_map]
  exact h
theorem grown_below {w wc w2 : World} {o : Obj} {B e size n : Nat} {v : Value} {xs : List Value} (hB : Below B w wc) (hown : wc.ownsRow B e size v n xs) (hs : B ≤ wc.heap.size) (hg : (wc.alloc o).grownBy w2 v.ownBlock) : Below B w w2 :=
  (hB.alloc hs o).grown hg (by simp; omega) fun g hgk => by
    rcases hown.2 with ⟨rfl, _⟩ | ⟨g', cap, cur, rfl, hb, _⟩
    · simp [Value.ownBlock] at hgk
    · simp [Value.ownBlock] at hgk; omega
theorem c26N (A : Option Addr) (c : Nat) (l : List Nat) (n : Nat) (w : World) (hn : l.length = n) (h : FS w A l) (hl : n < 4611686018427387904) :
    Calls Try.prog 26 #[.slice A n c] w fun e w' => RetF (plainP l) e ∧ Below w.heap.size w w' := by subst hn; exact c26F A c l w h hl
theorem c23N (A : Option Addr) (c : Nat) (l : List Nat) (n : Nat) (w : World) (hn : l.length = n) (h : FS w A l) (hl : n < 4611686018427387904) :
    Calls Try.prog 23 #[.slice A n c] w fun e w' => RetF (pV (accS l)) e ∧ Below w.heap.size w w' := by subst hn; exact c23F A c l w h hl
theorem c27N (A : Option Addr) (c : Nat) (l : List Nat) (n : Nat) (w : World) (hn : l.length = n) (h : FS w A l) (hl : n < 4611686018427387904) :
    Calls Try.prog 27 #[.slice A n c] w fun e w' => RetF (heldP l) e ∧ Below w.heap.size w w' := by subst hn; exact c27F A c l w h hl
theorem c28N (A : Option Addr) (c : Nat) (l : List Nat) (n : Nat) (w : World) (hn : l.length = n) (h : FS w A l) (hc : n ≤ c) (hl : n < 4611686018427387904) :
    Calls Try.prog 28 #[.slice A n c] w fun e w' => RetF (pairsP l) e ∧ Below w.heap.size w w' := by subst hn; exact c28F A c l w h hc hl
theorem U_wnt (a : Wn) : U (wnt a) := U_wz _ _

set_option maxRecDepth 100000 in
set_option maxHeartbeats 2000000 in
theorem walkSumsWhole (A : Option Addr) (zs : List Int) (c : Nat) (A1 : Option Addr) (cs : List Bool) (c1 : Nat) (w : World) (h : CS w A (zs.map (Value.int .i32))) (h1 : CS w A1 (cs.map Value.bool))
    (hz : ∀ z ∈ zs, z.natAbs ≤ 2147483648) (hl : zs.length < 4611686018427387904) (hl1 : cs.length < 4611686018427387904) :
    Calls Try.prog 5 #[.slice A zs.length c, .slice A1 cs.length c1] w fun e w' => e = .returned (.bool true) ∧ Below w.heap.size w w' := by
  obtain ⟨i0, hi, hz0, hz1, hz2⟩ := info_parts info24
  have HI := Lib.hid (And.intro hi (And.intro hz0 (And.intro hz1 hz2)))
  obtain ⟨K, hK⟩ : ∃ K, K = min zs.length 1048576 := ⟨_, rfl⟩
  have HK := Lib.hid hK
  have HZ := Lib.hid hz
  have H := Lib.hid h
  have H1 := Lib.hid h1
  clear hi hz0 hz1 hz2 hK hz h h1
  go_enter Try.func5, Try.ntmps5
  go_wp2_with fail
  refine (c22 _).mono ?_
  rintro e w1 ⟨rfl, hb⟩
  have B1 := Lib.hid hb
  clear hb
  go_wp2_with fail
  go_loopw [6, 7] (fun v i wx => ∃ k : Nat, k ≤ K ∧ i = .int .i64 k ∧ Hid (wx.ownsRow w.heap.size 24 1 v k (((Wl zs cs k).map wnt).map (Value.float .f64))) ∧ Hid (Below w.heap.size w wx)) (fun _ i _ => K - (intOf i).toNat)
  case atStart => exact ⟨0, by omega, rfl, Lib.hid ⟨rfl, .inl ⟨rfl, rfl⟩⟩, B1⟩
  case round =>
    obtain ⟨k, hk, rfl, hO, hB⟩ := hrel
    clear B1
    by_cases hlt : k < K
    · have hkn : k < zs.length := by have := HK.out; omega
      have hki : (k : Int) < (zs.length : Int) := by omega
      have hki2 : decide ((k : Int) < 1048576) = true := decide_eq_true (by have := HK.out; omega)
      obtain ⟨z, hzk⟩ : ∃ z, zs[k]? = some z := ⟨zs[k], List.getElem?_eq_getElem hkn⟩
      obtain ⟨b, o, rfl, kc⟩ := (H.out.below hB.out).at_ (show (zs.map (Value.int .i32))[k]? = some (.int .i32 z) by rw [List.getElem?_map, hzk]; rfl)
      have HE : Hid (elW zs cs k = (z, decide (z = 0) && cs.getD k false)) := Lib.hid (by unfold elW; rw [List.getD_eq_getElem?_getD, hzk]; rfl)
      have HLT := Lib.hid hlt
      clear hlt hkn hzk
      go_upto_region 7 with fail
      go_cut [46] (fun v wx => v = .bool (elW zs cs k).2 ∧ wx = wr)
      case first =>
        by_cases hz0 : z = 0
        · subst hz0
          by_cases hkm : k < cs.length
          · have hkmi : (k : Int) < (cs.length : Int) := by omega
            obtain ⟨cc, hc⟩ : ∃ cc, cs[k]? = some cc := ⟨cs[k], List.getElem?_eq_getElem hkm⟩
            obtain ⟨b1, o1, rfl, kc1⟩ := (H1.out.below hB.out).at_ (show (cs.map Value.bool)[k]? = some (.bool cc) by rw [List.getElem?_map, hc]; rfl)
            have HE2 : Hid ((elW zs cs k).2 = cc) := Lib.hid (by rw [HE.out, List.getD_eq_getElem?_getD, hc]; rfl)
            clear hc hkm
            go_wp2
            go_meet
            exact ⟨by rw [HE2.out], rfl⟩
          · have hkmi : ¬ (k : Int) < (cs.length : Int) := by omega
            have HE2 : Hid ((elW zs cs k).2 = false) := Lib.hid (by rw [HE.out, List.getD_eq_getElem?_getD, List.getElem?_eq_none (by omega)]; rfl)
            clear hkm
            go_wp2
            go_meet
            exact ⟨by rw [HE2.out], rfl⟩
        · have hzb : (z == 0) = false := by simpa using hz0
          have HE2 : Hid ((elW zs cs k).2 = false) := Lib.hid (by rw [HE.out, decide_eq_false hz0]; rfl)
          clear hz0
          go_wp2
          go_meet
          exact ⟨by rw [HE2.out], rfl⟩
      case rest =>
        obtain ⟨rfl, rfl⟩ := hcut
        have hneg : ∀ (b : Nat) (w : World), (Op.unary .neg (.float .f64 b)).run Try.prog w = .ok (.float .f64 (Op.negFloat .f64 b)) w := fun _ _ => rfl
        have HW : Hid ((elW zs cs k).2 = true → wnt (elW zs cs k) = Op.negFloat .f64 (floatOfInt .f64 z)) := Lib.hid fun h => by
          rw [HE.out] at h ⊢
          have hz : z = 0 := by rw [Bool.and_eq_true] at h; exact of_decide_eq_true h.1
          subst hz
          rw [show (decide ((0 : Int) = 0) && cs.getD k false) = true from h]
          exact wnt_neg
        have HW2 : Hid ((elW zs cs k).2 = false → wnt (elW zs cs k) = floatOfInt .f64 z) := Lib.hid fun h => by
          rw [HE.out] at h ⊢
          rw [show (decide (z = 0) && cs.getD k false) = false from h]
          exact wnt_pos z
        generalize floatOfInt .f64 z = fz at *
        clear kc
        have HOW := Lib.hid (And.intro hO.out (And.intro hB.out.size (show k < 1048576 by have := HK.out; have := HLT.out; omega)))
        have HBB := Lib.hid hB.out
        clear hO hB
        cases hcc : (elW zs cs k).2
        · have HC := Lib.hid (HW2.out hcc)
          clear hcc HW HW2
          go_wp2_with (at_builtin; refine wpList_append_own _ rfl _ _ 22 rfl w.heap.size 24 i0 (.float .f64 0) 1 8 Try.underlying22 HI.out.1 HI.out.2.1 HI.out.2.2.1 HI.out.2.2.2 rfl (by decide) _ _ _ rfl (HOW.out.1.alloc _) ⟨wc.heap.size, 0, none⟩ 1 1 [.float .f64 fz] rfl rfl ?c1 ?c2 ?c3 ?c4 ?c5 ?_)
          case c1 => exact new_cell wc _
          case c2 => intro u hu; rw [List.mem_singleton.1 hu]; rfl
          case c3 => have := HOW.out.2.2; unfold maxLen; omega
          case c4 => have := HOW.out.2.2; omega
          case c5 => have := HOW.out.2.1; simp; omega
          intro v2 w2 hown2 hgrow2 _
          have O2 := Lib.hid (row_next hown2 HC.out.symm)
          have B2 := Lib.hid (grown_below HBB.out HOW.out.1 HOW.out.2.1 hgrow2)
          clear hown2 hgrow2 HOW HBB
          go_wp2
          go_roundw
          case rel => exact ⟨k + 1, by have := HLT.out; omega, by go_num, O2, B2⟩
          case measure => have := HLT.out; simp [intOf]; omega
        · have HC := Lib.hid (HW.out hcc)
          clear hcc HW HW2
          go_wp2_with (at_builtin; refine wpList_append_own _ rfl _ _ 22 rfl w.heap.size 24 i0 (.float .f64 0) 1 8 Try.underlying22 HI.out.1 HI.out.2.1 HI.out.2.2.1 HI.out.2.2.2 rfl (by decide) _ _ _ rfl (HOW.out.1.alloc _) ⟨wc.heap.size, 0, none⟩ 1 1 [.float .f64 (Op.negFloat .f64 fz)] rfl rfl ?c1 ?c2 ?c3 ?c4 ?c5 ?_)
          case c1 => exact new_cell wc _
          case c2 => intro u hu; rw [List.mem_singleton.1 hu]; rfl
          case c3 => have := HOW.out.2.2; unfold maxLen; omega
          case c4 => have := HOW.out.2.2; omega
          case c5 => have := HOW.out.2.1; simp; omega
          intro v2 w2 hown2 hgrow2 _
          have O2 := Lib.hid (row_next hown2 HC.out.symm)
          have B2 := Lib.hid (grown_below HBB.out HOW.out.1 HOW.out.2.1 hgrow2)
          clear hown2 hgrow2 HOW HBB
          go_wp2
          go_roundw
          case rel => exact ⟨k + 1, by have := HLT.out; omega, by go_num, O2, B2⟩
          case measure => have := HLT.out; simp [intOf]; omega
    · have hkk : k = K := by omega
      subst hkk
      obtain ⟨A2, c2, hv, hfs, hlc⟩ := fs_of_row hO.out (by intro x hx; obtain ⟨a, _, rfl⟩ := List.mem_map.1 hx; exact U_wnt a)
      subst hv
      have hm := whole_law zs cs k (by have := HK.out; omega) HZ.out
      have hn : ((Wl zs cs k).map wnt).length = k := by rw [List.length_map, Wl_len]
      obtain ⟨P, hP⟩ : ∃ P, plainP ((Wl zs cs k).map wnt) = P ∧ pairsP ((Wl zs cs k).map wnt) = P ∧ heldP ((Wl zs cs k).map wnt) = P ∧ pV (accS ((Wl zs cs k).map wnt)) = P :=
        ⟨_, plain_whole _ hm, pairs_whole _ _ (Nat.le_refl _) hm, held_whole _ hm, exact_whole _ hm⟩
      have hex : (k = zs.length) ∨ (k < zs.length ∧ k = 1048576) := by have := HK.out; omega
      have L := Lib.hid hP
      have FS0 := Lib.hid hfs
      have NN := Lib.hid (And.intro hn (And.intro (show k ≤ c2 by rw [hn] at hlc; exact hlc) (show k < 4611686018427387904 by have := HK.out; omega)))
      have B0 := Lib.hid hB.out
      have hki : (¬ (k : Int) < (zs.length : Int)) ∨ ((k : Int) < (zs.length : Int) ∧ decide ((k : Int) < 1048576) = false) := by
        rcases hex with h | ⟨h1, h2⟩
        · left; omega
        · right; exact ⟨by omega, decide_eq_false (by omega)⟩
      rw [hn]
      generalize (Wl zs cs k).map wnt = m at *
      clear hn hP hm hlc hfs hO hB hex hlt hk
      rcases hki with hki | ⟨hki, hki2⟩
      all_goals
        go_wp2_with fail
        refine (c26N A2 c2 m k _ NN.out.1 FS0.out NN.out.2.2).mono ?_
        rintro e w2 ⟨⟨r1, rfl, u1, h1⟩, hb⟩
        have F2 := Lib.hid (FS0.out.below hb)
        have B2 := Lib.hid (below_trans B0.out hb)
        have R1 := Lib.hid (And.intro u1 h1)
        clear hb u1 h1 FS0 B0
        go_wp2_with fail
        refine (c28N A2 c2 m k _ NN.out.1 F2.out NN.out.2.1 NN.out.2.2).mono ?_
        rintro e w3 ⟨⟨r2, rfl, u1, h1⟩, hb⟩
        have F3 := Lib.hid (F2.out.below hb)
        have B3 := Lib.hid (below_trans B2.out hb)
        have R2 := Lib.hid (And.intro u1 h1)
        clear hb u1 h1 F2 B2
        go_wp2_with fail
        refine (c27N A2 c2 m k _ NN.out.1 F3.out NN.out.2.2).mono ?_
        rintro e w4 ⟨⟨r3, rfl, u1, h1⟩, hb⟩
        have F4 := Lib.hid (F3.out.below hb)
        have B4 := Lib.hid (below_trans B3.out hb)
        have R3 := Lib.hid (And.intro u1 h1)
        clear hb u1 h1 F3 B3
        go_wp2_with fail
        refine (c23N A2 c2 m k _ NN.out.1 F4.out NN.out.2.2).mono ?_
        rintro e w5 ⟨⟨r4, rfl, u1, h1⟩, hb⟩
        have B5 := Lib.hid (below_trans B4.out hb)
        have R4 := Lib.hid (And.intro u1 h1)
        clear hb u1 h1 F4 B4
        go_wp2_with fail
        refine (c24t r1 r2 _ R1.out.1 R2.out.1 (by rw [R1.out.2, R2.out.2, L.out.1, L.out.2.1])).mono ?_
        rintro e w' ⟨rfl, rfl⟩
        go_wp2_with fail
        refine (c24t r1 r3 _ R1.out.1 R3.out.1 (by rw [R1.out.2, R3.out.2, L.out.1, L.out.2.2.1])).mono ?_
        rintro e w' ⟨rfl, rfl⟩
        go_wp2_with fail
        refine (c24t r1 r4 _ R1.out.1 R4.out.1 (by rw [R1.out.2, R4.out.2, L.out.1, L.out.2.2.2])).mono ?_
        rintro e w' ⟨rfl, rfl⟩
        go_wp2
        go_ret
        exact ⟨rfl, B5.out⟩
end Go.Proofs.Ytelalledjbeenaa

namespace Go.Proofs.Ytelalledjbeenaa
open Go.ChangeShapes Go.WideShapes Go.RowKit Go.Deep

theorem open_intsK {H : Type} {enc : TypeId × Value → H} {w : World} {r : Reach} {B0 : Nat} {v : Value} {d : DataW H} {p : List MemPlace} (P : Program) (t e : TypeId) (k : IntKind) (ht : P.underlying t = some (.slice e)) (he : P.underlying e = some (.int k)) (hc : P.cellsOf e = 1)
    (hv : Value.okWide P w r B0 t v) (h : DataW.Trod enc P w 0 (fun _ => true) true t v d p) :
    ∃ (A : Option Addr) (l : List Int) (c : Nat), v = .slice A l.length c ∧ CS w A (l.map (Value.int k)) ∧ l.length ≤ c ∧ LenD d c ∧ ∀ z ∈ l, (Lit.int k z).wf = true := by
  obtain ⟨A, vs, c, rfl, hcs, hl, _, hd, hx, _⟩ := open_cells ht hc hv h
  obtain ⟨xs, rfl, hU⟩ := all_of (Value.int k) (fun z => (Lit.int k z).wf = true) vs (fun u hu => by
    obtain ⟨n, y, ht⟩ := hx u hu
    obtain ⟨z, hz, _, hw⟩ := DataW.trod_int he ht
    simp only [List.cons.injEq, and_true] at hz
    exact ⟨z, hz, hw⟩)
  rw [List.length_map] at hl ⊢
  exact ⟨A, xs, c, rfl, hcs, hl, hd, hU⟩
theorem open_boolsK {H : Type} {enc : TypeId × Value → H} {w : World} {r : Reach} {B0 : Nat} {v : Value} {d : DataW H} {p : List MemPlace} (P : Program) (t e : TypeId) (ht : P.underlying t = some (.slice e)) (he : P.underlying e = some .bool) (hc : P.cellsOf e = 1)
    (hv : Value.okWide P w r B0 t v) (h : DataW.Trod enc P w 0 (fun _ => true) true t v d p) :
    ∃ (A : Option Addr) (l : List Bool) (c : Nat), v = .slice A l.length c ∧ CS w A (l.map Value.bool) ∧ l.length ≤ c ∧ LenD d c := by
  obtain ⟨A, vs, c, rfl, hcs, hl, _, hd, hx, _⟩ := open_cells ht hc hv h
  obtain ⟨xs, rfl, _⟩ := all_of Value.bool (fun _ => True) vs (fun u hu => by
    obtain ⟨n, y, ht⟩ := hx u hu
    obtain ⟨z, hz, _⟩ := DataW.trod_bool he ht
    simp only [List.cons.injEq, and_true] at hz
    exact ⟨z, hz, trivial⟩)
  rw [List.length_map] at hl ⊢
  exact ⟨A, xs, c, rfl, hcs, hl, hd⟩
theorem cells21 : Try.prog.cellsOf 21 = 1 := by kernel_rfl
theorem bytes21 : Try.prog.bytesOf 21 = 4 := by kernel_rfl
theorem cells4 : Try.prog.cellsOf 4 = 1 := by kernel_rfl
theorem bytes4 : Try.prog.bytesOf 4 = 1 := by kernel_rfl
theorem cells3 : Try.prog.cellsOf 3 = 1 := by kernel_rfl
theorem bytes3 : Try.prog.bytesOf 3 = 8 := by kernel_rfl
theorem wf_i32 {z : Int} (h : (Lit.int .i32 z).wf = true) : -2147483648 ≤ z ∧ z ≤ 2147483647 := by
  simp [Lit.wf, IntKind.min, IntKind.max, IntKind.signed, IntKind.bits] at h; omega
theorem wf_i64 {z : Int} (h : (Lit.int .i64 z).wf = true) : -9223372036854775808 ≤ z ∧ z ≤ 9223372036854775807 := by
  simp [Lit.wf, IntKind.min, IntKind.max, IntKind.signed, IntKind.bits] at h; omega
theorem walkSumsWhole2 (A : Option Addr) (zs : List Int) (c : Nat) (A1 : Option Addr) (cs : List Bool) (c1 : Nat) (w : World) (h : CS w A (zs.map (Value.int .i32))) (m0 : zs.length ≤ c) (z0 : c * 4 ≤ 140737488351232)
    (f0 : ∀ z ∈ zs, (Lit.int .i32 z).wf = true) (h1 : CS w A1 (cs.map Value.bool)) (m1 : cs.length ≤ c1) (z1 : c1 * 1 ≤ 140737488351232) :
    Calls Try.prog 5 #[.slice A zs.length c, .slice A1 cs.length c1] w fun e w' => e = .returned (.bool true) ∧ Below w.heap.size w w' :=
  walkSumsWhole A zs c A1 cs c1 w h h1 (fun z hz => by have := wf_i32 (f0 z hz); omega) (by omega) (by omega)
end Go.Proofs.Ytelalledjbeenaa
