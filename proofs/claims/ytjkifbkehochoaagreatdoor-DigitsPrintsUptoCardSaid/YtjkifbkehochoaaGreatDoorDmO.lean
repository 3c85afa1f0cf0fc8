/- The walk of DigitsPrints. -/
import Derived.Test.YtjkifbkehochoaaGreatDoorDmN
import Derived.Test.YtjkifbkehochoaaGreatDoorOpenS
import Derived.Test.YtjkifbkehochoaaGreatDoorAwA
import Derived.Test.YtjkifbkehochoaaGreatDoorDhO
import Derived.Deep.RegionHeld3
namespace Go.Proofs.YtjkifbkehochoaaGreatDoor
open Go.ChangeShapes Go.WideShapes Go.RowKit Go.Deep Fl

theorem cells27 : Tryz.prog.cellsOf 27 = 1 := by kernel_rfl
theorem wf_u64 {z : Int} (h : (Lit.int .u64 z).wf = true) : 0 ≤ z ∧ z ≤ 18446744073709551615 := by
  simp [Lit.wf, IntKind.min, IntKind.max, IntKind.signed, IntKind.bits] at h; omega
def UV (us : List Nat) : List Value := us.map fun (n : Nat) => .int .u64 (n : Int)
set_option maxRecDepth 100000 in
theorem open_us {H : Type} {enc : TypeId × Value → H} {w : World} {r : Reach} {B0 : Nat} {v : Value} {d : DataW H} {p : List MemPlace} (hv : Value.okWide Tryz.prog w r B0 33 v) (h : DataW.Trod enc Tryz.prog w 0 (fun _ => true) true 33 v d p) :
    ∃ (A : Option Addr) (us : List Nat) (c : Nat), v = .slice A us.length c ∧ VR w A (UV us) ∧ us.length ≤ c ∧ c ≤ maxLen ∧ LenD d c ∧ ∀ n ∈ us, U n := by
  obtain ⟨A, vs, c, rfl, hcs, hl, hm, hd, hx, _⟩ := open_cells Tryz.underlying33 cells27 hv h
  obtain ⟨us, rfl, hz⟩ := all_of (fun n : Nat => Value.int .u64 (n : Int)) (fun n => U n) vs (fun u hu => by
    obtain ⟨n, y, ht⟩ := hx u hu
    obtain ⟨z, e1, -, e3⟩ := DataW.trod_int Tryz.underlying27 ht
    have e4 : u = .int .u64 z := by simpa using e1
    have e5 := wf_u64 e3
    exact ⟨z.toNat, by rw [e4, Int.toNat_of_nonneg e5.1], by unfold U; omega⟩)
  rw [List.length_map] at hl ⊢
  exact ⟨A, us, c, rfl, hcs, hl, hm, hd, hz⟩
theorem map_inj_u8 : ∀ a b : List UInt8, a.map UInt8.toNat = b.map UInt8.toNat → a = b
  | [], [], _ => rfl
  | [], y :: b, h => by cases h
  | x :: a, [], h => by cases h
  | x :: a, y :: b, h => by
    rw [List.map_cons, List.map_cons, List.cons.injEq] at h
    rw [UInt8.toNat_inj.1 h.1, map_inj_u8 a b h.2]
theorem bl_inj {a b : ByteArray} (h : bl a = bl b) : a = b := by
  cases a with | mk a => cases b with | mk b =>
    unfold bl at h
    congr 1
    apply Array.toList_inj.1
    exact map_inj_u8 _ _ h
theorem pow_tab {W : World} {x1 x2 : String × DataW Unit} {rest : List (String × DataW Unit)} (h : laidMet Tryz.prog (x1 :: x2 :: ("internal/strconv.uint64pow10", Lib.tabData .u64 powZ) :: rest) W) : PowTab W := by
  obtain ⟨ps, ⟨_, _, _, _, _, q1, _, _, _, _, ⟨_, _, _, _, _, q2, _, _, _, _, ⟨g', t', cs, fuel, p, q, hg', ht', hvar, hd, _, _⟩, _⟩, _⟩, _⟩ := h
  obtain rfl := Option.some.inj (pow_name.symm.trans hg')
  have ht : ∃ t e, (Tryz.prog.globals[1]?).map (·.type) = some t ∧ Tryz.prog.underlying t = some (.array 20 e) ∧ Tryz.prog.underlying e = some (.int .u64) ∧ Tryz.prog.cellsOf e = 1 ∧ Tryz.prog.cellsOf t = 20 := ⟨154, 27, by kernel_rfl, by kernel_rfl, by kernel_rfl, by kernel_rfl, by kernel_rfl⟩
  obtain ⟨t, e, h1, h2, h3, h4, h5⟩ := ht
  obtain rfl := Option.some.inj (h1.symm.trans ht')
  have hc := Lib.cells_of_tab h2 h3 h4 h5 hd
  show World.var? _ _ _ = _
  rw [hvar, show Lib.pow10Tab = powZ from by decide, ← hc]
set_option maxRecDepth 100000 in
set_option maxHeartbeats 4000000 in
theorem walkPrints0 (W : World) (haw : Calls Tryz.prog 9 #[] W fun e w' => e = .returned (.bool true) ∧ Below W.heap.size W w') (ht : PowTab W) (A : Option Addr) (us : List Nat) (c : Nat) (hA : VR W A (UV us)) (lc : us.length ≤ c) (ls : c ≤ 1152921504606846976) (hs : ∀ n ∈ us, U n) :
    Calls Tryz.prog 5 #[.slice A us.length c] W fun e w' => e = .returned (.bool true) ∧ Below W.heap.size W w' := by
  have haw := Lib.hid haw
  have HA := Lib.hid hA
  have HS := Lib.hid hs
  have HT := Lib.hid ht
  have l1 : (us.length : Int) ≤ 1152921504606846976 := by omega
  clear hA hs ht
  go_enter Tryz.func5, Tryz.ntmps5
  go_wp2_with (go_at_call 9; refine haw.out.mono ?_; rintro e w1 ⟨rfl, hb⟩; have I := Lib.hid hb; clear hb)
  go_loopw [4] (fun i wx => ∃ k : Nat, i = .int .i64 k ∧ Hid (k ≤ us.length ∧ Below W.heap.size W wx)) (fun i _ => us.length - (intOf i).toNat)
  case atStart => exact ⟨0, rfl, Lib.hid ⟨Nat.zero_le _, I.out⟩⟩
  case round =>
    obtain ⟨k, rfl, hI⟩ := hrel
    have k1 : (k : Int) ≤ (us.length : Int) := by have := hI.out.1; omega
    by_cases h1 : k < us.length
    · have i1 : (k : Int) < (us.length : Int) := by omega
      obtain ⟨x, hs⟩ : ∃ s, us[k]? = some s := ⟨us[k], List.getElem?_eq_getElem h1⟩
      obtain ⟨b1, o1, rfl, p1, q1⟩ := (HA.out.below hI.out.2).at (k := k) (x := .int .u64 (x : Int)) (by unfold UV; rw [List.getElem?_map, hs]; rfl)
      have hx := HS.out x (List.mem_of_getElem? hs)
      have CL := Lib.hid (fun w h => lShort x w hx h)
      have CR := Lib.hid (fun w => R.rShort x w hx)
      have PL := Lib.hid (fun w h => lPrint x w hx h)
      have PR := Lib.hid (fun w => R.rPrint x w hx)
      generalize shP (rg x) = P at *
      generalize shD (rg x) = D at *
      generalize printF x = F at *
      have HK := Lib.hid h1
      clear hx hs h1 p1
      go_upto_region 8 with (first
        | (go_at_call 16; refine (CL.out _ (HT.out.below hI.out.2)).mono ?_; rintro e w3 ⟨⟨z, rfl, hz⟩, hb⟩; have Z := Lib.hid hz; have J := Lib.hid (hI.out.2.trans (hb.mono hI.out.2.size)); clear hb hz)
        | (go_at_call 17; refine (CR.out _).mono ?_; rintro e w4 ⟨⟨z2, rfl, hz⟩, hb⟩; obtain rfl : z = z2 := bl_inj (Z.out.trans hz.symm); have J2 := Lib.hid (J.out.trans (hb.mono J.out.size)); clear hb hz))
      go_wp2_with (first
        | (go_at_call 12; refine (PL.out _ (HT.out.below J2.out)).mono ?_; rintro e w5 ⟨⟨y, rfl, hy, -⟩, hb⟩; have Y := Lib.hid hy; have J3 := Lib.hid (J2.out.trans (hb.mono J2.out.size)); clear hb hy)
        | (go_at_call 18; refine (PR.out _).mono ?_; rintro e w6 ⟨⟨y2, rfl, hy⟩, hb⟩; obtain rfl : y = y2 := bl_inj (Y.out.trans hy.symm); have J4 := Lib.hid (J3.out.trans (hb.mono J3.out.size)); clear hb hy))
      have E : Hid (k + 1 ≤ us.length) := HK
      go_roundw
      case rel => exact ⟨k + 1, by go_num, Lib.hid ⟨E.out, J4.out⟩⟩
      case measure => have := E.out; simp [intOf]; omega
    · have i1 : ¬ (k : Int) < (us.length : Int) := by omega
      have I2 := Lib.hid hI.out.2
      clear h1
      go_wp2_with fail
      go_ret
      exact ⟨rfl, I2.out⟩
theorem awake_prints {W : World} (h : laidMetH Tryz.prog Rows.digitsPrintsUptoRow.laid W) : (Calls Tryz.prog 9 #[] W fun e w' => e = .returned (.bool true) ∧ Below W.heap.size W w') ∧ PowTab W := by
  rw [MakeChecks.laidMetH_plain _ _ _ (by kernel_rfl)] at h
  exact ⟨awake_ok fun i hi => pow_cells h i hi, pow_tab h⟩
theorem walkPrints (W : World) (hL : laidMetH Tryz.prog Rows.digitsPrintsUptoRow.laid W) (A : Option Addr) (us : List Nat) (c : Nat) (hA : VR W A (UV us)) (lc : us.length ≤ c) (z0 : c ≤ 1048576) (hs : ∀ n ∈ us, U n) :
    Calls Tryz.prog 5 #[.slice A us.length c] W fun e w' => e = .returned (.bool true) ∧ Below W.heap.size W w' :=
  walkPrints0 W (awake_prints hL).1 (awake_prints hL).2 A us c hA lc (by omega) hs
end Go.Proofs.YtjkifbkehochoaaGreatDoor
