/- The walk of DigitsPrints. The walk of DigitsNames. -/
import Derived.Test.YtjkifbkehochoaaGreatDoorDmN
import Derived.Test.YtjkifbkehochoaaGreatDoorOpenS
import Derived.Test.YtjkifbkehochoaaGreatDoorAwA
import Derived.Test.YtjkifbkehochoaaGreatDoorDhO
import Derived.Deep.RegionHeld3
namespace Go.Proofs.YtjkifbkehochoaaGreatDoor
open Go.ChangeShapes Go.WideShapes Go.RowKit Go.Deep Fl
theorem map_inj_u8 : ∀ a b : List UInt8, a.map UInt8.toNat = b.map UInt8.toNat → a = b
  | [], [], _ => rfl
  | [], y :: b, h => by cases h
  | x :: a, [], h => by cases h
  | x :: a, y :: b, h => by
    rw [List.map_cons, List.map_cons, List.cons.injEq] at h
    rw [UInt8.toNat_inj.1 h.1, map_inj_u8 a b h.2]
theorem bl_inj {a b : ByteArray} (h : bl a = bl b) : a = b := by
  cases a with | mk a => cases b with | mk b =>
    unfold bl at h
    congr 1
    apply Array.toList_inj.1
    exact map_inj_u8 _ _ h
theorem pow_tab {W : World} {x1 x2 : String × DataW Unit} {rest : List (String × DataW Unit)} (h : laidMet Tryz.prog (x1 :: x2 :: ("internal/strconv.uint64pow10", Lib.tabData .u64 powZ) :: rest) W) : PowTab W := by
  obtain ⟨ps, ⟨_, _, _, _, _, q1, _, _, _, _, ⟨_, _, _, _, _, q2, _, _, _, _, ⟨g', t', cs, fuel, p, q, hg', ht', hvar, hd, _, _⟩, _⟩, _⟩, _⟩ := h
  obtain rfl := Option.some.inj (pow_name.symm.trans hg')
  have ht : ∃ t e, (Tryz.prog.globals[1]?).map (·.type) = some t ∧ Tryz.prog.underlying t = some (.array 20 e) ∧ Tryz.prog.underlying e = some (.int .u64) ∧ Tryz.prog.cellsOf e = 1 ∧ Tryz.prog.cellsOf t = 20 := ⟨154, 27, by kernel_rfl, by kernel_rfl, by kernel_rfl, by kernel_rfl, by kernel_rfl⟩
  obtain ⟨t, e, h1, h2, h3, h4, h5⟩ := ht
  obtain rfl := Option.some.inj (h1.symm.trans ht')
  have hc := Lib.cells_of_tab h2 h3 h4 h5 hd
  show World.var? _ _ _ = _
  rw [hvar, show Lib.pow10Tab = powZ from by decide, ← hc]
end Go.Proofs.YtjkifbkehochoaaGreatDoor

namespace Go.Proofs.YtjkifbkehochoaaGreatDoor
open Go.RowKit Fl
theorem names_p0 (w : World) : Calls Tryz.prog 10 #[.string ⟨#[57, 48, 48, 55, 49, 57, 57, 50, 53, 52, 55, 52, 48, 57, 57, 51, 46, 48, 48, 48, 48, 48, 48, 49]⟩] w fun e w' => e = .returned (.tuple #[.float .f64 4845873199050653697, .int .i64 24, .int .i64 0]) ∧ Below w.heap.size w w' := by
  have h := lParse ⟨#[57, 48, 48, 55, 49, 57, 57, 50, 53, 52, 55, 52, 48, 57, 57, 51, 46, 48, 48, 48, 48, 48, 48, 49]⟩ w (by decide)
  have b : bl ⟨#[57, 48, 48, 55, 49, 57, 57, 50, 53, 52, 55, 52, 48, 57, 57, 51, 46, 48, 48, 48, 48, 48, 48, 49]⟩ = [57, 48, 48, 55, 49, 57, 57, 50, 53, 52, 55, 52, 48, 57, 57, 51, 46, 48, 48, 48, 48, 48, 48, 49] := rfl
  rw [b, show pW [57, 48, 48, 55, 49, 57, 57, 50, 53, 52, 55, 52, 48, 57, 57, 51, 46, 48, 48, 48, 48, 48, 48, 49] = 4845873199050653697 from by decide +kernel, show pN [57, 48, 48, 55, 49, 57, 57, 50, 53, 52, 55, 52, 48, 57, 57, 51, 46, 48, 48, 48, 48, 48, 48, 49] = 24 from by decide +kernel, show pErr [57, 48, 48, 55, 49, 57, 57, 50, 53, 52, 55, 52, 48, 57, 57, 51, 46, 48, 48, 48, 48, 48, 48, 49] = 0 from by decide +kernel] at h
  exact h
theorem names_p1 (w : World) : Calls Tryz.prog 10 #[.string ⟨#[50, 46, 52, 55, 48, 51, 50, 56, 50, 50, 57, 50, 48, 54, 50, 51, 50, 55, 101, 45, 51, 50, 52]⟩] w fun e w' => e = .returned (.tuple #[.float .f64 0, .int .i64 23, .int .i64 0]) ∧ Below w.heap.size w w' := by
  have h := lParse ⟨#[50, 46, 52, 55, 48, 51, 50, 56, 50, 50, 57, 50, 48, 54, 50, 51, 50, 55, 101, 45, 51, 50, 52]⟩ w (by decide)
  have b : bl ⟨#[50, 46, 52, 55, 48, 51, 50, 56, 50, 50, 57, 50, 48, 54, 50, 51, 50, 55, 101, 45, 51, 50, 52]⟩ = [50, 46, 52, 55, 48, 51, 50, 56, 50, 50, 57, 50, 48, 54, 50, 51, 50, 55, 101, 45, 51, 50, 52] := rfl
  rw [b, show pW [50, 46, 52, 55, 48, 51, 50, 56, 50, 50, 57, 50, 48, 54, 50, 51, 50, 55, 101, 45, 51, 50, 52] = 0 from by decide +kernel, show pN [50, 46, 52, 55, 48, 51, 50, 56, 50, 50, 57, 50, 48, 54, 50, 51, 50, 55, 101, 45, 51, 50, 52] = 23 from by decide +kernel, show pErr [50, 46, 52, 55, 48, 51, 50, 56, 50, 50, 57, 50, 48, 54, 50, 51, 50, 55, 101, 45, 51, 50, 52] = 0 from by decide +kernel] at h
  exact h
theorem names_p2 (w : World) : Calls Tryz.prog 10 #[.string ⟨#[50, 46, 52, 55, 48, 51, 50, 56, 50, 50, 57, 50, 48, 54, 50, 51, 50, 56, 101, 45, 51, 50, 52]⟩] w fun e w' => e = .returned (.tuple #[.float .f64 1, .int .i64 23, .int .i64 0]) ∧ Below w.heap.size w w' := by
  have h := lParse ⟨#[50, 46, 52, 55, 48, 51, 50, 56, 50, 50, 57, 50, 48, 54, 50, 51, 50, 56, 101, 45, 51, 50, 52]⟩ w (by decide)
  have b : bl ⟨#[50, 46, 52, 55, 48, 51, 50, 56, 50, 50, 57, 50, 48, 54, 50, 51, 50, 56, 101, 45, 51, 50, 52]⟩ = [50, 46, 52, 55, 48, 51, 50, 56, 50, 50, 57, 50, 48, 54, 50, 51, 50, 56, 101, 45, 51, 50, 52] := rfl
  rw [b, show pW [50, 46, 52, 55, 48, 51, 50, 56, 50, 50, 57, 50, 48, 54, 50, 51, 50, 56, 101, 45, 51, 50, 52] = 1 from by decide +kernel, show pN [50, 46, 52, 55, 48, 51, 50, 56, 50, 50, 57, 50, 48, 54, 50, 51, 50, 56, 101, 45, 51, 50, 52] = 23 from by decide +kernel, show pErr [50, 46, 52, 55, 48, 51, 50, 56, 50, 50, 57, 50, 48, 54, 50, 51, 50, 56, 101, 45, 51, 50, 52] = 0 from by decide +kernel] at h
  exact h
theorem names_p3 (w : World) : Calls Tryz.prog 10 #[.string ⟨#[49, 46, 55, 57, 55, 54, 57, 51, 49, 51, 52, 56, 54, 50, 51, 49, 53, 57, 101, 51, 48, 56]⟩] w fun e w' => e = .returned (.tuple #[.float .f64 9218868437227405312, .int .i64 22, .int .i64 0]) ∧ Below w.heap.size w w' := by
  have h := lParse ⟨#[49, 46, 55, 57, 55, 54, 57, 51, 49, 51, 52, 56, 54, 50, 51, 49, 53, 57, 101, 51, 48, 56]⟩ w (by decide)
  have b : bl ⟨#[49, 46, 55, 57, 55, 54, 57, 51, 49, 51, 52, 56, 54, 50, 51, 49, 53, 57, 101, 51, 48, 56]⟩ = [49, 46, 55, 57, 55, 54, 57, 51, 49, 51, 52, 56, 54, 50, 51, 49, 53, 57, 101, 51, 48, 56] := rfl
  rw [b, show pW [49, 46, 55, 57, 55, 54, 57, 51, 49, 51, 52, 56, 54, 50, 51, 49, 53, 57, 101, 51, 48, 56] = 9218868437227405312 from by decide +kernel, show pN [49, 46, 55, 57, 55, 54, 57, 51, 49, 51, 52, 56, 54, 50, 51, 49, 53, 57, 101, 51, 48, 56] = 22 from by decide +kernel, show pErr [49, 46, 55, 57, 55, 54, 57, 51, 49, 51, 52, 56, 54, 50, 51, 49, 53, 57, 101, 51, 48, 56] = 0 from by decide +kernel] at h
  exact h
theorem names_t0 (w : World) (ht : PowTab w) : Calls Tryz.prog 12 #[.float .f64 4517329193108106637] w fun e w' => e = .returned (.string ⟨#[48, 46, 48, 48, 48, 48, 48, 49]⟩) ∧ Below w.heap.size w w' := by
  refine (lPrint 4517329193108106637 w (by unfold U; decide) ht).mono ?_
  rintro e w' ⟨⟨z, rfl, hz, -⟩, hb⟩
  have e : printF 4517329193108106637 = [48, 46, 48, 48, 48, 48, 48, 49] := by decide +kernel
  exact ⟨by rw [bl_inj (hz.trans (e.trans (show [48, 46, 48, 48, 48, 48, 48, 49] = bl ⟨#[48, 46, 48, 48, 48, 48, 48, 49]⟩ from rfl)))], hb⟩
theorem names_t1 (w : World) (ht : PowTab w) : Calls Tryz.prog 12 #[.float .f64 4502148214488346440] w fun e w' => e = .returned (.string ⟨#[49, 101, 45, 55]⟩) ∧ Below w.heap.size w w' := by
  refine (lPrint 4502148214488346440 w (by unfold U; decide) ht).mono ?_
  rintro e w' ⟨⟨z, rfl, hz, -⟩, hb⟩
  have e : printF 4502148214488346440 = [49, 101, 45, 55] := by decide +kernel
  exact ⟨by rw [bl_inj (hz.trans (e.trans (show [49, 101, 45, 55] = bl ⟨#[49, 101, 45, 55]⟩ from rfl)))], hb⟩
theorem names_t2 (w : World) (ht : PowTab w) : Calls Tryz.prog 12 #[.float .f64 9218868437227405311] w fun e w' => e = .returned (.string ⟨#[49, 46, 55, 57, 55, 54, 57, 51, 49, 51, 52, 56, 54, 50, 51, 49, 53, 55, 101, 43, 51, 48, 56]⟩) ∧ Below w.heap.size w w' := by
  refine (lPrint 9218868437227405311 w (by unfold U; decide) ht).mono ?_
  rintro e w' ⟨⟨z, rfl, hz, -⟩, hb⟩
  have e : printF 9218868437227405311 = [49, 46, 55, 57, 55, 54, 57, 51, 49, 51, 52, 56, 54, 50, 51, 49, 53, 55, 101, 43, 51, 48, 56] := by decide +kernel
  exact ⟨by rw [bl_inj (hz.trans (e.trans (show [49, 46, 55, 57, 55, 54, 57, 51, 49, 51, 52, 56, 54, 50, 51, 49, 53, 55, 101, 43, 51, 48, 56] = bl ⟨#[49, 46, 55, 57, 55, 54, 57, 51, 49, 51, 52, 56, 54, 50, 51, 49, 53, 55, 101, 43, 51, 48, 56]⟩ from rfl)))], hb⟩
theorem names_t3 (w : World) (ht : PowTab w) : Calls Tryz.prog 12 #[.float .f64 4746794007248510976] w fun e w' => e = .returned (.string ⟨#[50, 49, 52, 55, 52, 56, 51, 54, 52, 56, 46, 48, 48, 51, 57, 48, 54, 50]⟩) ∧ Below w.heap.size w w' := by
  refine (lPrint 4746794007248510976 w (by unfold U; decide) ht).mono ?_
  rintro e w' ⟨⟨z, rfl, hz, -⟩, hb⟩
  have e : printF 4746794007248510976 = [50, 49, 52, 55, 52, 56, 51, 54, 52, 56, 46, 48, 48, 51, 57, 48, 54, 50] := by decide +kernel
  exact ⟨by rw [bl_inj (hz.trans (e.trans (show [50, 49, 52, 55, 52, 56, 51, 54, 52, 56, 46, 48, 48, 51, 57, 48, 54, 50] = bl ⟨#[50, 49, 52, 55, 52, 56, 51, 54, 52, 56, 46, 48, 48, 51, 57, 48, 54, 50]⟩ from rfl)))], hb⟩
theorem names_t4 (w : World) (ht : PowTab w) : Calls Tryz.prog 12 #[.float .f64 4907451598986591450] w fun e w' => e = .returned (.string ⟨#[49, 50, 51, 52, 53, 54, 55, 56, 57, 48, 49, 50, 51, 52, 53, 54, 56, 48, 48, 48, 48]⟩) ∧ Below w.heap.size w w' := by
  refine (lPrint 4907451598986591450 w (by unfold U; decide) ht).mono ?_
  rintro e w' ⟨⟨z, rfl, hz, -⟩, hb⟩
  have e : printF 4907451598986591450 = [49, 50, 51, 52, 53, 54, 55, 56, 57, 48, 49, 50, 51, 52, 53, 54, 56, 48, 48, 48, 48] := by decide +kernel
  exact ⟨by rw [bl_inj (hz.trans (e.trans (show [49, 50, 51, 52, 53, 54, 55, 56, 57, 48, 49, 50, 51, 52, 53, 54, 56, 48, 48, 48, 48] = bl ⟨#[49, 50, 51, 52, 53, 54, 55, 56, 57, 48, 49, 50, 51, 52, 53, 54, 56, 48, 48, 48, 48]⟩ from rfl)))], hb⟩
set_option maxRecDepth 100000 in
set_option maxHeartbeats 4000000 in
theorem walkNames0 (W : World) (haw : Calls Tryz.prog 9 #[] W fun e w' => e = .returned (.bool true) ∧ Below W.heap.size W w') (ht : PowTab W) :
    Calls Tryz.prog 3 #[] W fun e w' => e = .returned (.bool true) ∧ Below W.heap.size W w' := by
  have haw := Lib.hid haw
  have HT := Lib.hid ht
  clear ht
  have f1 : (FloatKind.f64.format.order 4845873199050653697 4845873199050653697 == some Ordering.eq) = true := by decide +kernel
  have f2 : (FloatKind.f64.format.order 0 0 == some Ordering.eq) = true := by decide +kernel
  have f3 : (FloatKind.f64.format.order 9218868437227405312 9218868437227405311 == some Ordering.gt) = true := by decide +kernel
  go_enter Tryz.func3, Tryz.ntmps3
  go_wp2_with (first
    | (go_at_call 9; refine haw.out.mono ?_; rintro e w1 ⟨rfl, hb⟩; have I := Lib.hid hb; clear hb)
    | (go_at_call 10; with_reducible refine (names_p0 _).mono ?_; rintro e w2 ⟨rfl, hb⟩; have J0 := Lib.hid (I.out.trans (hb.mono I.out.size)); clear hb)
    | (go_at_call 10; with_reducible refine (names_p1 _).mono ?_; rintro e w3 ⟨rfl, hb⟩; have J1 := Lib.hid (J0.out.trans (hb.mono J0.out.size)); clear hb)
    | (go_at_call 10; with_reducible refine (names_p2 _).mono ?_; rintro e w4 ⟨rfl, hb⟩; have J2 := Lib.hid (J1.out.trans (hb.mono J1.out.size)); clear hb)
    | (go_at_call 10; with_reducible refine (names_p3 _).mono ?_; rintro e w5 ⟨rfl, hb⟩; have J3 := Lib.hid (J2.out.trans (hb.mono J2.out.size)); clear hb)
    | (go_at_call 12; with_reducible refine (names_t0 _ (HT.out.below J3.out)).mono ?_; rintro e w6 ⟨rfl, hb⟩; have K0 := Lib.hid (J3.out.trans (hb.mono J3.out.size)); clear hb)
    | (go_at_call 12; with_reducible refine (names_t1 _ (HT.out.below K0.out)).mono ?_; rintro e w7 ⟨rfl, hb⟩; have K1 := Lib.hid (K0.out.trans (hb.mono K0.out.size)); clear hb)
    | (go_at_call 12; with_reducible refine (names_t2 _ (HT.out.below K1.out)).mono ?_; rintro e w8 ⟨rfl, hb⟩; have K2 := Lib.hid (K1.out.trans (hb.mono K1.out.size)); clear hb)
    | (go_at_call 12; with_reducible refine (names_t3 _ (HT.out.below K2.out)).mono ?_; rintro e w9 ⟨rfl, hb⟩; have K3 := Lib.hid (K2.out.trans (hb.mono K2.out.size)); clear hb)
    | (go_at_call 12; with_reducible refine (names_t4 _ (HT.out.below K3.out)).mono ?_; rintro e w10 ⟨rfl, hb⟩; have K4 := Lib.hid (K3.out.trans (hb.mono K3.out.size)); clear hb))
  go_ret
  exact ⟨rfl, K4.out⟩
theorem awake_names {W : World} (h : laidMetH Tryz.prog Rows.digitsNamesRow.laid W) : (Calls Tryz.prog 9 #[] W fun e w' => e = .returned (.bool true) ∧ Below W.heap.size W w') ∧ PowTab W := by
  rw [MakeChecks.laidMetH_plain _ _ _ (by kernel_rfl)] at h
  exact ⟨awake_ok fun i hi => pow_cells h i hi, pow_tab h⟩
theorem walkNames (W : World) (hL : laidMetH Tryz.prog Rows.digitsNamesRow.laid W) :
    Calls Tryz.prog 3 #[] W fun e w' => e = .returned (.bool true) ∧ Below W.heap.size W w' := walkNames0 W (awake_names hL).1 (awake_names hL).2
end Go.Proofs.YtjkifbkehochoaaGreatDoor
