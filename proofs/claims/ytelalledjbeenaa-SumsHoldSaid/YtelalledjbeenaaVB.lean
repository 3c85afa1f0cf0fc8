/- A sum of the reference's: Join. -/
import Derived.Test.YtelalledjbeenaaMgUL
namespace Go.Proofs.Ytelalledjbeenaa
open Go.RowKit Fl

/-- two sums together -/
def joinR (s t : RS) : RS := ⟨s.up + t.up, s.down + t.down, s.many + t.many, s.none + t.none, s.high + t.high, s.low + t.low, s.cold + t.cold⟩
theorem accOf_join (s t : RS) (hs : s.cold ≤ s.many) (ht : t.cold ≤ t.many) : accOf (joinR s t) = joinS (accOf s) (accOf t) := by
  unfold accOf joinR joinS
  congr 1
  · simp only; omega
  · rw [← Bool.decide_or]; exact decide_eq_decide.2 (by simp only; omega)
  · rw [← Bool.decide_or]; exact decide_eq_decide.2 (by simp only; omega)
  · rw [← Bool.decide_or]; exact decide_eq_decide.2 (by simp only; omega)
  · rw [← Bool.decide_or]; exact decide_eq_decide.2 (by simp only; omega)
theorem ROK.join {s t : RS} (h : ROK s) (k : ROK t) : ROK (joinR s t) := by
  have h1 := h.cold
  have h2 := h.none
  have h3 := h.high
  have h4 := h.low
  have h5 := h.up
  have h6 := h.down
  have k1 := k.cold
  have k2 := k.none
  have k3 := k.high
  have k4 := k.low
  have k5 := k.up
  have k6 := k.down
  have e := Nat.add_mul s.many t.many N2098
  unfold joinR
  exact ⟨by simp only; omega, by simp only; omega, by simp only; omega, by simp only; omega, by simp only; omega, by simp only; omega⟩
/-- a sum's cells, as a value -/
def SV (s : RS) : List Value := UL s.up ++ (UL s.down ++ [.int .i64 (s.many : Nat), .int .i64 (s.none : Nat), .int .i64 (s.high : Nat), .int .i64 (s.low : Nat), .int .i64 (s.cold : Nat)])
theorem SV_len (s : RS) : (SV s).length = 145 := by unfold SV; simp [UL_len]
theorem SV_up (s : RS) (j : Nat) (h : j < 70) : (SV s)[j]? = some (.int .u32 ((dg s.up j : Nat) : Int)) := by
  unfold SV; rw [List.getElem?_append_left (by rw [UL_len]; exact h)]; exact UL_get _ _ h
theorem SV_down (s : RS) (j : Nat) (h : j < 70) : (SV s)[70 + j]? = some (.int .u32 ((dg s.down j : Nat) : Int)) := by
  unfold SV; rw [List.getElem?_append_right (by rw [UL_len]; omega), UL_len, List.getElem?_append_left (by rw [UL_len]; omega), show 70 + j - 70 = j by omega]; exact UL_get _ _ h
theorem SV_cnt (s : RS) (j : Nat) : (SV s)[140 + j]? = [Value.int .i64 (s.many : Nat), .int .i64 (s.none : Nat), .int .i64 (s.high : Nat), .int .i64 (s.low : Nat), .int .i64 (s.cold : Nat)][j]? := by
  unfold SV; rw [List.getElem?_append_right (by rw [UL_len]; omega), UL_len, List.getElem?_append_right (by rw [UL_len]; omega), UL_len, show 140 + j - 70 - 70 = j by omega]
theorem SV_one (s : RS) : ∀ v ∈ SV s, v.oneCell' = true := fun v hv => by
  unfold SV UL at hv
  simp only [List.mem_append, List.mem_map, List.mem_cons, List.not_mem_nil, or_false] at hv
  rcases hv with ⟨_, _, rfl⟩ | ⟨_, _, rfl⟩ | rfl | rfl | rfl | rfl | rfl <;> rfl
theorem sum_box (w : World) (s : RS) (t : TypeId) : SumAt (w.alloc (.cells (SV s).toArray t)) w.heap.size 0 s := by
  have c := fun j => World.cell?_alloc_new w (SV s).toArray t j
  have f : ∀ j, (w.alloc (.cells (SV s).toArray t)).frozen? ⟨w.heap.size, j, Option.none⟩ = false := fun j => by simp [go_sem]
  refine ⟨fun j hj => ⟨?_, f _⟩, fun j hj => ⟨?_, f _⟩, ⟨?_, f _⟩, ⟨?_, f _⟩, ⟨?_, f _⟩, ⟨?_, f _⟩, ⟨?_, f _⟩⟩
  · rw [Nat.zero_add, c, List.getElem?_toArray, SV_up s j hj]
  · rw [Nat.zero_add, c, List.getElem?_toArray, SV_down s j hj]
  · rw [c, List.getElem?_toArray]; exact SV_cnt s 0
  · rw [c, List.getElem?_toArray]; exact SV_cnt s 1
  · rw [c, List.getElem?_toArray]; exact SV_cnt s 2
  · rw [c, List.getElem?_toArray]; exact SV_cnt s 3
  · rw [c, List.getElem?_toArray]; exact SV_cnt s 4
theorem low_words (n i : Nat) : n % 2 ^ (32 * (i + 1)) = n % 2 ^ (32 * i) + dg n i * 2 ^ (32 * i) := by
  rw [show 32 * (i + 1) = 32 * i + 32 by omega, Nat.pow_add, Nat.mod_mul]
  unfold dg
  rw [show (2 : Nat) ^ 32 = 4294967296 by decide]
  exact congrArg (n % 2 ^ (32 * i) + ·) (Nat.mul_comm _ _)
theorem SumAt.far {w w' : World} {b o lo hi : Nat} {s : RS} (h : SumAt w b o s) (k : OnlyC b lo hi w w') (ho : o + 145 ≤ lo ∨ hi ≤ o) : SumAt w' b o s :=
  ⟨h.up.only k (by omega), h.down.only k (by omega), h.m0.only k (by omega), h.m1.only k (by omega), h.m2.only k (by omega), h.m3.only k (by omega), h.m4.only k (by omega)⟩
theorem SumAt.other {w w' : World} {b c o : Nat} {s : RS} (h : SumAt w c o s) (k : Only b w w') (hc : c < w.heap.size) (hne : c ≠ b) : SumAt w' c o s := by
  have e : ∀ o, w'.cell? ⟨c, o, Option.none⟩ = w.cell? ⟨c, o, Option.none⟩ := fun _ => World.cell?_of_block (w := w) (k.block c hc hne)
  have f : ∀ o, w'.frozen? ⟨c, o, Option.none⟩ = w.frozen? ⟨c, o, Option.none⟩ := fun _ => World.frozen?_of_block (w := w) (k.block c hc hne)
  exact ⟨fun j hj => ⟨(e _).trans (h.up j hj).1, (f _).trans (h.up j hj).2⟩, fun j hj => ⟨(e _).trans (h.down j hj).1, (f _).trans (h.down j hj).2⟩, ⟨(e _).trans h.m0.1, (f _).trans h.m0.2⟩, ⟨(e _).trans h.m1.1, (f _).trans h.m1.2⟩, ⟨(e _).trans h.m2.1, (f _).trans h.m2.2⟩, ⟨(e _).trans h.m3.1, (f _).trans h.m3.2⟩, ⟨(e _).trans h.m4.1, (f _).trans h.m4.2⟩⟩
theorem OnlyC.drew {b lo hi : Nat} {w w' : World} (h : OnlyC b lo hi w w') : OnlyC b lo hi w w'.drew := ⟨h.only.drew, h.cell, h.fro⟩
/-- what Join holds: the sum, the other's copy -/
structure JX (w wx : World) (b o : Nat) (s t : RS) : Prop where
  s : SumAt wx b o s
  t : SumAt wx w.heap.size 0 t
  o : OnlyC b o (o + 145) w wx
  l : w.heap.size < wx.heap.size
theorem JX.far {w wx wy : World} {b o n : Nat} {s t s' : RS} (h : JX w wx b o s t) (hb : b < w.heap.size) (hn : o ≤ n ∧ n < o + 145) (v : Value) (e : wy = wx.drew.setCell ⟨b, n, Option.none⟩ v) (hs : SumAt wy b o s') : JX w wy b o s' t := by
  subst e
  refine ⟨hs, (h.t.drew).other (b := b) ((Only.refl b wx.drew).setCell v) h.l (by omega), h.o.drew.set hn v, by rw [World.size_setCell]; exact h.l⟩
/-- the sum while low words are added -/
def midR (s t : RS) (i j : Nat) : RS := { s with up := s.up + t.up % 2 ^ (32 * i), down := s.down + t.down % 2 ^ (32 * j) }
theorem midR_zero (s t : RS) : midR s t 0 0 = s := by unfold midR; simp [Nat.mod_one]
theorem JX.call {w wx wy : World} {b o lo : Nat} {s t s' : RS} (h : JX w wx b o s t) (hb : b < w.heap.size) (k : OnlyC b lo (lo + 70) wx.drew wy) (hlo : o ≤ lo ∧ lo + 70 ≤ o + 145) (hs : SumAt wy b o s') : JX w wy b o s' t :=
  ⟨hs, (h.t.drew).other k.only h.l (by omega), h.o.drew.trans (k.wide hlo.1 hlo.2), Nat.lt_of_lt_of_le h.l k.only.size⟩
set_option maxRecDepth 100000 in
set_option maxHeartbeats 4000000 in
theorem c114 (b o : Nat) (s t : RS) (w : World) (hs : SumAt w b o s) (hb : b < w.heap.size) (hu : t.up < 2 ^ (32 * RC)) (hd : t.down < 2 ^ (32 * RC))
    (hms : s.many ≤ 1099511627776 ∧ ROK s) (hmt : t.many ≤ 1099511627776 ∧ ROK t) :
    Calls Try.prog 114 #[.pointer (some ⟨b, o, Option.none⟩), .agg (SV t).toArray] w fun e w' => e = .returned (.tuple #[]) ∧ SumAt w' b o (joinR s t) ∧ OnlyC b o (o + 145) w w' := by
  have HBB := Lib.hid hb
  have HT := Lib.hid (And.intro hu hd)
  have J0 : Hid (JX w (w.alloc (.cells (SV t).toArray 110)) b o (midR s t 0 0) t) := Lib.hid ⟨by
    rw [midR_zero]
    exact hs.below ((Below.refl w.heap.size w).alloc (Nat.le_refl _) (.cells (SV t).toArray 110)) hb, sum_box w t 110, (OnlyC.refl b o (o + 145) w).below ((Below.refl w.heap.size w).alloc (Nat.le_refl _) _) hb (Nat.le_refl _), by simp⟩
  have HMS := Lib.hid (show s.many ≤ 1099511627776 ∧ s.none ≤ 1099511627776 ∧ s.high ≤ 1099511627776 ∧ s.low ≤ 1099511627776 ∧ s.cold ≤ 1099511627776 by
    have := hms.1; have := hms.2.none; have := hms.2.high; have := hms.2.low; have := hms.2.cold; omega)
  have HMT := Lib.hid (show t.many ≤ 1099511627776 ∧ t.none ≤ 1099511627776 ∧ t.high ≤ 1099511627776 ∧ t.low ≤ 1099511627776 ∧ t.cold ≤ 1099511627776 by
    have := hmt.1; have := hmt.2.none; have := hmt.2.high; have := hmt.2.low; have := hmt.2.cold; omega)
  clear hs hb hu hd hms hmt
  go_enter Try.func114, Try.ntmps114
  go_wp2_with fail
  go_loopw [4] (fun ii wx => ∃ i : Nat, ii = .int .i64 (i : Nat) ∧ Hid (i ≤ 70) ∧ Hid (JX w wx b o (midR s t i i) t)) (fun ii _ => 70 - (intOf ii).toNat)
  case atStart => exact ⟨0, rfl, Lib.hid (by omega), J0⟩
  case round =>
    obtain ⟨i, rfl, hi, hJ⟩ := hrel
    clear J0
    by_cases hlt : i < 70
    · have hki : (i : Int) < 70 := by omega
      have hk0 : (0 : Int) ≤ (i : Int) := by omega
      have HLT := Lib.hid hlt
      have HW := Lib.hid (show IntKind.i64.wrap (32 * (i : Int)) = ((32 * i : Nat) : Int) from by rw [IntWalk.i64_in _ (by omega)]; omega)
      have c0 := (hJ.out.t.up i HLT.out).1
      rw [Nat.zero_add] at c0
      have d1 : (dg t.up i : Int) < 4294967296 := by have := dg_lt t.up i; omega
      have d0 : (0 : Int) ≤ (dg t.up i : Int) := by omega
      have HV := Lib.hid (And.intro (show IntKind.u64.wrap (dg t.up i : Int) = (dg t.up i : Int) from by rw [IntKind.wrap_u64]; omega) (show U (dg t.up i) by unfold U; omega))
      clear hlt
      clear d1 d0
      go_upto_region 4 with fail
      go_still_tail 10, (by kernel_rfl)
      rw [HV.out.1, HW.out]
      clear c0
      change wpList _ _ _ _ _ wr.drew
      go_wp2_with fail
      refine (c166 b o _ (dg t.up i) (32 * i) _ HV.out.2 (by have := HLT.out; omega) hJ.out.s.drew.up (Nat.lt_trans HBB.out hJ.out.l)).mono ?_
      rintro e w2 ⟨rfl, hr, ho⟩
      have hJ2 : Hid (JX w w2 b o (midR s t (i + 1) i) t) := Lib.hid (hJ.out.call HBB.out ho (by omega) (by
        have hh := hJ.out.s.drew.newUp hr ho
        have e : ({ midR s t i i with up := (midR s t i i).up + dg t.up i * 2 ^ (32 * i) } : RS) = midR s t (i + 1) i := by
          unfold midR
          simp only
          rw [low_words t.up i, Nat.add_assoc]
        rw [← e]; exact hh))
      clear hr ho hJ HV
      have c1 := (hJ2.out.t.down i HLT.out).1
      rw [Nat.zero_add] at c1
      have d1 : (dg t.down i : Int) < 4294967296 := by have := dg_lt t.down i; omega
      have d0 : (0 : Int) ≤ (dg t.down i : Int) := by omega
      have HV := Lib.hid (And.intro (show IntKind.u64.wrap (dg t.down i : Int) = (dg t.down i : Int) from by rw [IntKind.wrap_u64]; omega) (show U (dg t.down i) by unfold U; omega))
      clear d1 d0
      go_upto_region 5 with fail
      go_still_tail 10, (by kernel_rfl)
      rw [HV.out.1, HW.out]
      clear c1
      change wpList _ _ _ _ _ w2.drew
      go_wp2_with fail
      refine (c166 b (o + 70) _ (dg t.down i) (32 * i) _ HV.out.2 (by have := HLT.out; omega) hJ2.out.s.drew.down (Nat.lt_trans HBB.out hJ2.out.l)).mono ?_
      rintro e w3 ⟨rfl, hr, ho⟩
      have hJ3 : Hid (JX w w3 b o (midR s t (i + 1) (i + 1)) t) := Lib.hid (hJ2.out.call HBB.out ho (by omega) (by
        have hh := hJ2.out.s.drew.newDown hr ho
        have e : ({ midR s t (i + 1) i with down := (midR s t (i + 1) i).down + dg t.down i * 2 ^ (32 * i) } : RS) = midR s t (i + 1) (i + 1) := by
          unfold midR
          simp only
          rw [low_words t.down i, Nat.add_assoc]
        rw [← e]; exact hh))
      clear hr ho hJ2 HV
      go_wp2_with fail
      go_roundw
      case rel => exact ⟨i + 1, by go_num, Lib.hid (by have := HLT.out; omega), hJ3⟩
      case measure => have := HLT.out; simp [intOf]; omega
    · have hki : ¬ (i : Int) < 70 := by omega
      have h70 : i = RC := by have := hi.out; rw [RC_eq]; omega
      have hX : Hid (JX w wr b o { s with up := s.up + t.up, down := s.down + t.down } t) := Lib.hid (by
        have h := hJ.out
        rw [h70] at h
        unfold midR at h
        rw [Nat.mod_eq_of_lt HT.out.1, Nat.mod_eq_of_lt HT.out.2] at h
        exact h)
      clear hJ hlt h70 hi
      have k0 := hX.out.s.m0.1
      have f0 := hX.out.s.m0.2
      have kt := hX.out.t.m0.1
      rw [Nat.zero_add] at kt
      simp only at k0
      have HW : Hid (IntKind.i64.wrap ((s.many : Int) + (t.many : Int)) = ((s.many + t.many : Nat) : Int)) := Lib.hid (by
        have := HMS.out
        have := HMT.out
        rw [IntWalk.i64_in _ (by omega)]; omega)
      have Y : Hid (JX w (wr.drew.setCell ⟨b, o + 140, Option.none⟩ (.int .i64 ((s.many + t.many : Nat) : Int))) b o { s with up := s.up + t.up, down := s.down + t.down, many := s.many + t.many } t) := Lib.hid (hX.out.far HBB.out (by omega) _ rfl (hX.out.s.drew.set0 (s.many + t.many)))
      go_upto_region 6 with fail
      go_still_tail 10, (by kernel_rfl)
      rw [HW.out]
      change wpList _ _ _ _ _ wr.drew
      go_upto_region 7 with fail
      clear k0 f0 kt HW hX
      refine wp_gen' (fun wx => Hid (JX w wx b o { s with up := s.up + t.up, down := s.down + t.down, many := s.many + t.many } t)) Y ?_
      clear Y
      intro wx1 hX
      have k0 := hX.out.s.m1.1
      have f0 := hX.out.s.m1.2
      have kt := hX.out.t.m1.1
      rw [Nat.zero_add] at kt
      simp only at k0
      have HW : Hid (IntKind.i64.wrap ((s.none : Int) + (t.none : Int)) = ((s.none + t.none : Nat) : Int)) := Lib.hid (by
        have := HMS.out
        have := HMT.out
        rw [IntWalk.i64_in _ (by omega)]; omega)
      have Y : Hid (JX w (wx1.drew.setCell ⟨b, o + 141, Option.none⟩ (.int .i64 ((s.none + t.none : Nat) : Int))) b o { s with up := s.up + t.up, down := s.down + t.down, many := s.many + t.many, none := s.none + t.none } t) := Lib.hid (hX.out.far HBB.out (by omega) _ rfl (hX.out.s.drew.set1 (s.none + t.none)))
      go_upto_region 7 with fail
      go_still_tail 10, (by kernel_rfl)
      rw [HW.out]
      change wpList _ _ _ _ _ wx1.drew
      go_upto_region 8 with fail
      clear k0 f0 kt HW hX
      refine wp_gen' (fun wx => Hid (JX w wx b o { s with up := s.up + t.up, down := s.down + t.down, many := s.many + t.many, none := s.none + t.none } t)) Y ?_
      clear Y
      intro wx2 hX
      have k0 := hX.out.s.m2.1
      have f0 := hX.out.s.m2.2
      have kt := hX.out.t.m2.1
      rw [Nat.zero_add] at kt
      simp only at k0
      have HW : Hid (IntKind.i64.wrap ((s.high : Int) + (t.high : Int)) = ((s.high + t.high : Nat) : Int)) := Lib.hid (by
        have := HMS.out
        have := HMT.out
        rw [IntWalk.i64_in _ (by omega)]; omega)
      have Y : Hid (JX w (wx2.drew.setCell ⟨b, o + 142, Option.none⟩ (.int .i64 ((s.high + t.high : Nat) : Int))) b o { s with up := s.up + t.up, down := s.down + t.down, many := s.many + t.many, none := s.none + t.none, high := s.high + t.high } t) := Lib.hid (hX.out.far HBB.out (by omega) _ rfl (hX.out.s.drew.set2 (s.high + t.high)))
      go_upto_region 8 with fail
      go_still_tail 10, (by kernel_rfl)
      rw [HW.out]
      change wpList _ _ _ _ _ wx2.drew
      go_upto_region 9 with fail
      clear k0 f0 kt HW hX
      refine wp_gen' (fun wx => Hid (JX w wx b o { s with up := s.up + t.up, down := s.down + t.down, many := s.many + t.many, none := s.none + t.none, high := s.high + t.high } t)) Y ?_
      clear Y
      intro wx3 hX
      have k0 := hX.out.s.m3.1
      have f0 := hX.out.s.m3.2
      have kt := hX.out.t.m3.1
      rw [Nat.zero_add] at kt
      simp only at k0
      have HW : Hid (IntKind.i64.wrap ((s.low : Int) + (t.low : Int)) = ((s.low + t.low : Nat) : Int)) := Lib.hid (by
        have := HMS.out
        have := HMT.out
        rw [IntWalk.i64_in _ (by omega)]; omega)
      have Y : Hid (JX w (wx3.drew.setCell ⟨b, o + 143, Option.none⟩ (.int .i64 ((s.low + t.low : Nat) : Int))) b o { s with up := s.up + t.up, down := s.down + t.down, many := s.many + t.many, none := s.none + t.none, high := s.high + t.high, low := s.low + t.low } t) := Lib.hid (hX.out.far HBB.out (by omega) _ rfl (hX.out.s.drew.set3 (s.low + t.low)))
      go_upto_region 9 with fail
      go_still_tail 10, (by kernel_rfl)
      rw [HW.out]
      change wpList _ _ _ _ _ wx3.drew
      go_upto_region 10 with fail
      clear k0 f0 kt HW hX
      refine wp_gen' (fun wx => Hid (JX w wx b o { s with up := s.up + t.up, down := s.down + t.down, many := s.many + t.many, none := s.none + t.none, high := s.high + t.high, low := s.low + t.low } t)) Y ?_
      clear Y
      intro wx4 hX
      have k0 := hX.out.s.m4.1
      have f0 := hX.out.s.m4.2
      have kt := hX.out.t.m4.1
      rw [Nat.zero_add] at kt
      simp only at k0
      have HW : Hid (IntKind.i64.wrap ((s.cold : Int) + (t.cold : Int)) = ((s.cold + t.cold : Nat) : Int)) := Lib.hid (by
        have := HMS.out
        have := HMT.out
        rw [IntWalk.i64_in _ (by omega)]; omega)
      have Y : Hid (JX w (wx4.drew.setCell ⟨b, o + 144, Option.none⟩ (.int .i64 ((s.cold + t.cold : Nat) : Int))) b o { s with up := s.up + t.up, down := s.down + t.down, many := s.many + t.many, none := s.none + t.none, high := s.high + t.high, low := s.low + t.low, cold := s.cold + t.cold } t) := Lib.hid (hX.out.far HBB.out (by omega) _ rfl (hX.out.s.drew.set4 (s.cold + t.cold)))
      go_upto_region 10 with fail
      go_still_tail 10, (by kernel_rfl)
      rw [HW.out]
      change wpList _ _ _ _ _ wx4.drew
      clear hX
      go_wp2_with fail
      exact bodyPost_end (v := .tuple #[]) (results_none rfl _ _ _) rfl ⟨rfl, Y.out.s, Y.out.o⟩
end Go.Proofs.Ytelalledjbeenaa
