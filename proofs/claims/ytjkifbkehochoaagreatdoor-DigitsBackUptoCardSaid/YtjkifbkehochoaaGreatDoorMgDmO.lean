/- The walk of DigitsPrints. The walk of DigitsBack: numbers that are not finite. The walk of DigitsBack: finite numbers. The walk of DigitsBack: finite numbers that are not nought. -/
import Derived.Test.YtjkifbkehochoaaGreatDoorDmN
import Derived.Test.YtjkifbkehochoaaGreatDoorOpenS
import Derived.Test.YtjkifbkehochoaaGreatDoorAwA
import Derived.Test.YtjkifbkehochoaaGreatDoorDhO
import Derived.Deep.RegionHeld3
import Derived.Test.YtjkifbkehochoaaGreatDoorMgDnB
namespace Go.Proofs.YtjkifbkehochoaaGreatDoor
open Go.ChangeShapes Go.WideShapes Go.RowKit Go.Deep Fl
theorem wf_u64 {z : Int} (h : (Lit.int .u64 z).wf = true) : 0 ≤ z ∧ z ≤ 18446744073709551615 := by
  simp [Lit.wf, IntKind.min, IntKind.max, IntKind.signed, IntKind.bits] at h; omega
theorem map_inj_u8 : ∀ a b : List UInt8, a.map UInt8.toNat = b.map UInt8.toNat → a = b
  | [], [], _ => rfl
  | [], y :: b, h => by cases h
  | x :: a, [], h => by cases h
  | x :: a, y :: b, h => by
    rw [List.map_cons, List.map_cons, List.cons.injEq] at h
    rw [UInt8.toNat_inj.1 h.1, map_inj_u8 a b h.2]
theorem bl_inj {a b : ByteArray} (h : bl a = bl b) : a = b := by
  cases a with | mk a => cases b with | mk b =>
    unfold bl at h
    congr 1
    apply Array.toList_inj.1
    exact map_inj_u8 _ _ h
theorem pow_tab {W : World} {x1 x2 : String × DataW Unit} {rest : List (String × DataW Unit)} (h : laidMet Tryz.prog (x1 :: x2 :: ("internal/strconv.uint64pow10", Lib.tabData .u64 powZ) :: rest) W) : PowTab W := by
  obtain ⟨ps, ⟨_, _, _, _, _, q1, _, _, _, _, ⟨_, _, _, _, _, q2, _, _, _, _, ⟨g', t', cs, fuel, p, q, hg', ht', hvar, hd, _, _⟩, _⟩, _⟩, _⟩ := h
  obtain rfl := Option.some.inj (pow_name.symm.trans hg')
  have ht : ∃ t e, (Tryz.prog.globals[1]?).map (·.type) = some t ∧ Tryz.prog.underlying t = some (.array 20 e) ∧ Tryz.prog.underlying e = some (.int .u64) ∧ Tryz.prog.cellsOf e = 1 ∧ Tryz.prog.cellsOf t = 20 := ⟨154, 27, by kernel_rfl, by kernel_rfl, by kernel_rfl, by kernel_rfl, by kernel_rfl⟩
  obtain ⟨t, e, h1, h2, h3, h4, h5⟩ := ht
  obtain rfl := Option.some.inj (h1.symm.trans ht')
  have hc := Lib.cells_of_tab h2 h3 h4 h5 hd
  show World.var? _ _ _ = _
  rw [hvar, show Lib.pow10Tab = powZ from by decide, ← hc]
end Go.Proofs.YtjkifbkehochoaaGreatDoor

namespace Go.Proofs.YtjkifbkehochoaaGreatDoor
open Go.RowKit Fl
theorem err_nan : pErr [78, 97, 78] = 31 := by decide
theorem err_inf : pErr [73, 110, 102, 105, 110, 105, 116, 121] = 31 := by decide
theorem err_ninf : pErr (45 :: [73, 110, 102, 105, 110, 105, 116, 121]) = 31 := by decide
theorem err_print {x : Nat} (h : INF ≤ rg x) : pErr (printF x) = 31 := by
  unfold printF
  by_cases c : INF < rg x
  · rw [if_pos c, err_nan]
  · rw [if_neg c, show rg x = INF by omega, R.bodyF_inf]
    cases sg x
    · exact err_inf
    · exact err_ninf
theorem sh_none {b : Nat} (h : b = 0 ∨ INF ≤ b) : shD b = [] ∧ shP b = 0 := by
  unfold shD shP
  rw [if_pos h, if_pos h]
  exact ⟨rfl, rfl⟩
theorem ne_zero_inf (x : Nat) (w : World) (hx : U x) (hf : fin x = false) : (FloatKind.f64.format.order (fop .sub x x w) 0 != some Ordering.eq) = true := by
  have h1 : isN (fop .sub x x w) = true := by
    unfold fop
    rw [sub_self_inf x hx hf]
    exact (nanBits_cut x x _).2
  rw [f64_order _ _ (U_fop .sub x x w) (by unfold U; decide), h1]
  rfl
set_option maxRecDepth 100000 in
set_option maxHeartbeats 2000000 in
theorem walkBackInf (W : World) (haw : Calls Tryz.prog 9 #[] W fun e w' => e = .returned (.bool true) ∧ Below W.heap.size W w') (ht : PowTab W) (x : Nat) (s : ByteArray) (hx : U x) (hI : INF ≤ rg x) :
    Calls Tryz.prog 7 #[.int .u64 (x : Int), .string s] W fun e w' => e = .returned (.bool true) ∧ Below W.heap.size W w' := by
  have haw := Lib.hid haw
  have HT := Lib.hid ht
  have CP := Lib.hid (fun w h => lPrint x w hx h)
  have CS := Lib.hid (fun w h => lShort x w hx h)
  have he := err_print hI
  obtain ⟨e1, e2⟩ := sh_none (.inr hI)
  rw [e1, e2] at CS
  have CR : Hid (∀ (z : ByteArray) (w : World), bl z = printF x → (z.size : Int) ≤ 61 → Calls Tryz.prog 10 #[.string z] w fun e w' => (∃ (y : Nat) (n : Int), e = .returned (.tuple #[.float .f64 y, .int .i64 n, .int .i64 31]) ∧ True) ∧ Below w.heap.size w w') := Lib.hid (fun z w hz hs => by
    have h := lParse z w (by omega)
    rw [hz, he] at h
    refine h.mono ?_
    rintro e w' ⟨rfl, hb⟩
    exact ⟨⟨_, _, rfl, trivial⟩, hb⟩)
  have nf := neq_self x hx
  have hsub := Lib.hid (fun w => run_fop (P := Tryz.prog) .sub rfl 23 x x w)
  have HX := Lib.hid (And.intro hx hI)
  clear ht he e1 e2
  rcases hn : isN x with _ | _
  · have fx : fin x = false := by
      unfold fin
      exact decide_eq_false (by omega)
    have hs2 : ∀ w, (binOp .sub 23 (.float .f64 x) (.float .f64 x)).run Tryz.prog w = .ok (.float .f64 (fop .sub x x w)) (w.drewN 1) := fun w => by
      have := hsub.out w
      rwa [show fopN .sub x x = 1 by unfold fopN; rw [sub_self_inf x hx fx]; rfl] at this
    have hs3 := fun w => ne_zero_inf x w hx fx
    rw [hn] at nf
    clear hsub hn hx hI fx
    go_enter Tryz.func7, Tryz.ntmps7
    go_wp2_with (first
      | (go_at_call 9; refine haw.out.mono ?_; rintro e w1 ⟨rfl, hb⟩; have B1 := Lib.hid hb; clear hb)
      | (go_at_call 12; refine (CP.out _ (HT.out.below B1.out)).mono ?_; rintro e w2 ⟨⟨z, rfl, hz, zs⟩, hb⟩; have B2 := Lib.hid (B1.out.trans (hb.mono B1.out.size)); have Z := Lib.hid hz; clear hb hz)
      | (go_at_call 16; refine (CS.out _ (HT.out.below B2.out)).mono ?_; rintro e w3 ⟨⟨d, rfl, hd⟩, hb⟩; obtain rfl : d = ⟨#[]⟩ := bl_inj hd; have B3 := Lib.hid (BdN (B2.out.trans (hb.mono B2.out.size)) 1); clear hb)
      | (go_at_call 10; refine (CR.out _ _ Z.out zs).mono ?_; rintro e w4 ⟨⟨y, n, rfl, -⟩, hb⟩; have B4 := Lib.hid (B3.out.trans (hb.mono B3.out.size)); clear hb))
    go_ret
    exact ⟨rfl, B4.out⟩
  · rw [hn] at nf
    clear hsub hn hx hI
    go_enter Tryz.func7, Tryz.ntmps7
    go_wp2_with (first
      | (go_at_call 9; refine haw.out.mono ?_; rintro e w1 ⟨rfl, hb⟩; have B1 := Lib.hid hb; clear hb)
      | (go_at_call 12; refine (CP.out _ (HT.out.below B1.out)).mono ?_; rintro e w2 ⟨⟨z, rfl, hz, zs⟩, hb⟩; have B2 := Lib.hid (B1.out.trans (hb.mono B1.out.size)); have Z := Lib.hid hz; clear hb hz)
      | (go_at_call 16; refine (CS.out _ (HT.out.below B2.out)).mono ?_; rintro e w3 ⟨⟨d, rfl, hd⟩, hb⟩; obtain rfl : d = ⟨#[]⟩ := bl_inj hd; have B3 := Lib.hid (B2.out.trans (hb.mono B2.out.size)); clear hb)
      | (go_at_call 10; refine (CR.out _ _ Z.out zs).mono ?_; rintro e w4 ⟨⟨y, n, rfl, -⟩, hb⟩; have B4 := Lib.hid (B3.out.trans (hb.mono B3.out.size)); clear hb))
    go_ret
    exact ⟨rfl, B4.out⟩
end Go.Proofs.YtjkifbkehochoaaGreatDoor

namespace Go.Proofs.YtjkifbkehochoaaGreatDoor
open Go.RowKit Fl
theorem eq_zero (x : Nat) (hx : U x) (hn : isN x = false) : (FloatKind.f64.format.order x 0 == some Ordering.eq) = decide (rg x = 0) := by
  rw [f64_order x 0 hx (by unfold U; decide), hn, compare_int]
  have e0 : isN 0 = false := by decide
  have s0 : skey 0 = 0 := by decide
  rw [e0, s0]
  have hk : skey x = if sg x = true then -(rg x : Int) else (rg x : Int) := rfl
  rw [hk]
  by_cases c : rg x = 0
  · rw [c, decide_eq_true rfl]
    cases sg x <;> rfl
  · rw [decide_eq_false c]
    cases sg x
    · simp only [Bool.false_eq_true, if_false, Bool.or_self]
      rw [if_neg (by omega), if_neg (by omega)]; rfl
    · simp only [if_true, Bool.or_self, Bool.false_eq_true, if_false]
      rw [if_pos (by omega)]; rfl
theorem ord_diff {y b : Nat} (hy : y ≤ INF) (hb : b ≤ INF) (h : y ≠ b) : (FloatKind.f64.format.order y b != some Ordering.eq) = true := by
  rw [ord_pos hy hb, compare_int]
  rcases Nat.lt_or_gt_of_ne h with c | c
  · rw [if_pos (by omega)]; rfl
  · rw [if_neg (by omega), if_neg (by omega)]; rfl
set_option maxRecDepth 100000 in
set_option maxHeartbeats 4000000 in
theorem walkBackZero (W : World) (haw : Calls Tryz.prog 9 #[] W fun e w' => e = .returned (.bool true) ∧ Below W.heap.size W w') (ht : PowTab W) (x : Nat) (s : ByteArray) (hx : U x) (h0 : rg x = 0) (hs : s.size ≤ 1099511627776) :
    Calls Tryz.prog 7 #[.int .u64 (x : Int), .string s] W fun e w' => e = .returned (.bool true) ∧ Below W.heap.size W w' := by
  have hf : rg x < INF := by rw [h0]; decide
  have haw := Lib.hid haw
  have HT := Lib.hid ht
  have CP := Lib.hid (fun w h => lPrint x w hx h)
  have CS := Lib.hid (fun w h => lShort x w hx h)
  obtain ⟨e1, e2⟩ := sh_none (.inl h0)
  rw [e1, e2] at CS
  have CR0 : Hid (∀ (z : ByteArray) (w : World), bl z = printF x → Calls Tryz.prog 10 #[.string z] w fun e w' => e = .returned (.tuple #[.float .f64 x, .int .i64 (z.size : Int), .int .i64 0]) ∧ Below w.heap.size w w') := Lib.hid (fun z w hz => by
    obtain ⟨a, b, c⟩ := parse_print hx hf ends_nil
    rw [List.append_nil] at a b c
    have hl : z.size = (printF x).length := by rw [← bl_len, hz]
    have hz61 : (printF x).length ≤ 61 := by
      have := bodyF_len (b := rg x) (by omega)
      unfold printF
      rw [if_neg (by omega), List.length_append]
      split <;> simp <;> omega
    have h := lParse z w (by omega)
    rw [hz, a, b, c, ← hl] at h
    exact h)
  have CR1 : Hid (∀ (z : ByteArray) (w : World), bl z = printF x → Ends (bl s) → Calls Tryz.prog 10 #[.string (z ++ s)] w fun e w' => e = .returned (.tuple #[.float .f64 x, .int .i64 (z.size : Int), .int .i64 0]) ∧ Below w.heap.size w w') := Lib.hid (fun z w hz hE => by
    obtain ⟨a, b, c⟩ := parse_print hx hf hE
    have hl : z.size = (printF x).length := by rw [← bl_len, hz]
    have hz61 : (printF x).length ≤ 61 := by
      have := bodyF_len (b := rg x) (by omega)
      unfold printF
      rw [if_neg (by omega), List.length_append]
      split <;> simp <;> omega
    have h := lParse (z ++ s) w (by rw [ByteArray.size_append]; omega)
    rw [bl_append, hz, a, b, c, ← hl] at h
    exact h)
  have CG := Lib.hid (fun w => cGoes s w (by omega))
  have hn : isN x = false := decide_eq_false (by omega)
  have nf := neq_self x hx
  rw [hn] at nf
  have fx : fin x = true := decide_eq_true hf
  have hs2 : ∀ w, (binOp .sub 23 (.float .f64 x) (.float .f64 x)).run Tryz.prog w = .ok (.float .f64 0) w := fun w => run_float_arith w .sub 23 .f64 x x 0 (sub_self_fin x hx fx)
  have f00 : (FloatKind.f64.format.order 0 0 != some Ordering.eq) = false := by decide +kernel
  have ez := eq_zero x hx hn
  rw [decide_eq_true h0] at ez
  have sI : (s.size : Int) ≤ 1099511627776 := by omega
  clear ht e1 e2 hn fx hf h0 hx hs
  go_enter Tryz.func7, Tryz.ntmps7
  go_upto_if 94 with (first
      | (go_at_call 9; refine haw.out.mono ?_; rintro e w1 ⟨rfl, hb⟩; have B1 := Lib.hid hb; clear hb)
      | (go_at_call 12; refine (CP.out _ (HT.out.below B1.out)).mono ?_; rintro e w2 ⟨⟨z, rfl, hz, zs⟩, hb⟩; have B2 := Lib.hid (B1.out.trans (hb.mono B1.out.size)); have Z := Lib.hid hz; clear hb hz)
      | (go_at_call 16; refine (CS.out _ (HT.out.below B2.out)).mono ?_; rintro e w3 ⟨⟨d, rfl, hd⟩, hb⟩; have D := Lib.hid hd; have B3 := Lib.hid (B2.out.trans (hb.mono B2.out.size)); clear hb hd)
      | (go_at_call 10; refine (CR0.out _ _ Z.out).mono ?_; rintro e w4 ⟨rfl, hb⟩; have B4 := Lib.hid (B3.out.trans (hb.mono B3.out.size)); clear hb)
      | (go_at_call 21; refine (CG.out _).mono ?_; rintro e w5 ⟨⟨g, rfl, hg⟩, rfl⟩; have G := Lib.hid hg; clear hg))
  obtain rfl : d = ⟨#[]⟩ := bl_inj D.out
  cases g
  · go_wp2_with (first
        | (go_at_call 10; refine (CR1.out _ _ Z.out (G.out rfl)).mono ?_; rintro e w6 ⟨rfl, hb⟩; have B4 := Lib.hid (B4.out.trans (hb.mono B4.out.size)); clear hb))
    go_ret
    exact ⟨rfl, B4.out⟩
  · go_wp2_with fail
    go_ret
    exact ⟨rfl, B4.out⟩
end Go.Proofs.YtjkifbkehochoaaGreatDoor

namespace Go.Proofs.YtjkifbkehochoaaGreatDoor
open Go.RowKit Fl
set_option maxRecDepth 100000 in
set_option maxHeartbeats 4000000 in
theorem walkBackFin (W : World) (haw : Calls Tryz.prog 9 #[] W fun e w' => e = .returned (.bool true) ∧ Below W.heap.size W w') (ht : PowTab W) (x : Nat) (s : ByteArray) (hx : U x) (h0 : 0 < rg x) (hf : rg x < INF) (hs : s.size ≤ 1099511627776) :
    Calls Tryz.prog 7 #[.int .u64 (x : Int), .string s] W fun e w' => e = .returned (.bool true) ∧ Below W.heap.size W w' := by
  have haw := Lib.hid haw
  have HT := Lib.hid ht
  have CP := Lib.hid (fun w h => lPrint x w hx h)
  have CS := Lib.hid (fun w h => lShort x w hx h)
  have CR0 : Hid (∀ (z : ByteArray) (w : World), bl z = printF x → Calls Tryz.prog 10 #[.string z] w fun e w' => e = .returned (.tuple #[.float .f64 x, .int .i64 (z.size : Int), .int .i64 0]) ∧ Below w.heap.size w w') := Lib.hid (fun z w hz => by
    obtain ⟨a, b, c⟩ := parse_print hx hf ends_nil
    rw [List.append_nil] at a b c
    have hl : z.size = (printF x).length := by rw [← bl_len, hz]
    have hz61 : (printF x).length ≤ 61 := by
      have := bodyF_len (b := rg x) (by omega)
      unfold printF
      rw [if_neg (by omega), List.length_append]
      split <;> simp <;> omega
    have h := lParse z w (by omega)
    rw [hz, a, b, c, ← hl] at h
    exact h)
  have CR1 : Hid (∀ (z : ByteArray) (w : World), bl z = printF x → Ends (bl s) → Calls Tryz.prog 10 #[.string (z ++ s)] w fun e w' => e = .returned (.tuple #[.float .f64 x, .int .i64 (z.size : Int), .int .i64 0]) ∧ Below w.heap.size w w') := Lib.hid (fun z w hz hE => by
    obtain ⟨a, b, c⟩ := parse_print hx hf hE
    have hl : z.size = (printF x).length := by rw [← bl_len, hz]
    have hz61 : (printF x).length ≤ 61 := by
      have := bodyF_len (b := rg x) (by omega)
      unfold printF
      rw [if_neg (by omega), List.length_append]
      split <;> simp <;> omega
    have h := lParse (z ++ s) w (by rw [ByteArray.size_append]; omega)
    rw [bl_append, hz, a, b, c, ← hl] at h
    exact h)
  have CG := Lib.hid (fun w => cGoes s w (by omega))
  have hn : isN x = false := decide_eq_false (by omega)
  have nf := neq_self x hx
  rw [hn] at nf
  have fx : fin x = true := decide_eq_true hf
  have hs2 : ∀ w, (binOp .sub 23 (.float .f64 x) (.float .f64 x)).run Tryz.prog w = .ok (.float .f64 0) w := fun w => run_float_arith w .sub 23 .f64 x x 0 (sub_self_fin x hx fx)
  have f00 : (FloatKind.f64.format.order 0 0 != some Ordering.eq) = false := by decide +kernel
  have ez := eq_zero x hx hn
  rw [decide_eq_false (by omega)] at ez
  have sI : (s.size : Int) ≤ 1099511627776 := by omega
  obtain ⟨l17, hd0, hdl, hmore⟩ := sh_fewest h0 hf
  obtain ⟨rd, dgD, neD⟩ := sh_reads h0 hf
  obtain ⟨l1, l2, p1, p2⟩ := sh_range h0 hf
  have CA := Lib.hid (fun w => c133 x w hx)
  have bl2 : rg x ≤ INF := Nat.le_of_lt hf
  have fne := ord_ne bl2
  have PP := Lib.hid (show ∀ l p, readF l p ≤ INF from fun l p => readF_le l p)
  generalize shD (rg x) = L at *
  generalize shP (rg x) = P at *
  generalize rg x = b at *
  have CN : Hid (∀ (z : ByteArray) (p : Int) (w : World), DG (bl z) → bl z ≠ [] → z.size ≤ 100 → -1000 ≤ p → p ≤ 1000 → Calls Tryz.prog 19 #[.string z, .int .i64 p] w fun e w' => e = .returned (.tuple #[.float .f64 (readF (bl z) p), .int .i64 0]) ∧ Below w.heap.size w w') := Lib.hid (fun z p w h1 h2 h3 h4 h5 => by
    have h := lNear z p w (by omega) (by omega)
    unfold nrW nrK at h
    rw [if_pos (okD_DG h1 h2), if_pos (okD_DG h1 h2)] at h
    exact h)
  have FACTS := Lib.hid (And.intro l17 (And.intro hd0 (And.intro hdl hmore)))
  have RD := Lib.hid (And.intro rd (And.intro dgD neD))
  have BL := Lib.hid bl2
  clear ht hn fx hf h0 hx hs l17 hd0 hdl hmore rd dgD neD bl2 l2
  go_enter Tryz.func7, Tryz.ntmps7
  go_upto_if 94 with (first
      | (go_at_call 9; refine haw.out.mono ?_; rintro e w1 ⟨rfl, hb⟩; have B1 := Lib.hid hb; clear hb)
      | (go_at_call 12; refine (CP.out _ (HT.out.below B1.out)).mono ?_; rintro e w2 ⟨⟨z, rfl, hz, zs⟩, hb⟩; have B2 := Lib.hid (B1.out.trans (hb.mono B1.out.size)); have Z := Lib.hid hz; clear hb hz)
      | (go_at_call 16; refine (CS.out _ (HT.out.below B2.out)).mono ?_; rintro e w3 ⟨⟨d, rfl, hd⟩, hb⟩; have D := Lib.hid hd; have B3 := Lib.hid (B2.out.trans (hb.mono B2.out.size)); clear hb hd)
      | (go_at_call 10; refine (CR0.out _ _ Z.out).mono ?_; rintro e w4 ⟨rfl, hb⟩; have B4 := Lib.hid (B3.out.trans (hb.mono B3.out.size)); clear hb)
      | (go_at_call 21; refine (CG.out _).mono ?_; rintro e w5 ⟨⟨g, rfl, hg⟩, rfl⟩; have G := Lib.hid hg; clear hg))
  have ld : d.size = L.length := by rw [← bl_len, D.out]
  obtain ⟨j, hj⟩ : ∃ j, d.size = j + 1 := ⟨d.size - 1, by omega⟩
  have t1 : (d.size : Int) - 1 = (j : Int) := by omega
  have t2 : j < d.size := by omega
  have t3 : 0 < d.size := by omega
  have t4 : (j : Int) < (d.size : Int) := by omega
  have t5 : (0 : Int) < (d.size : Int) := by omega
  have n1 : ¬ (d.size : Int) < 1 := by omega
  have n17 : ¬ (17 : Int) < (d.size : Int) := by have := FACTS.out.1; omega
  have g0 : (((d[0]).toNat : Int) == 48) = false := beq_eq_false_iff_ne.2 (fun e => FACTS.out.2.1 (by rw [← D.out, bl_getD d 0 t3]; omega))
  have gj : (((d[j]).toNat : Int) == 48) = false := beq_eq_false_iff_ne.2 (fun e => FACTS.out.2.2.1 (by rw [← ld, hj, Nat.add_sub_cancel, ← D.out, bl_getD d j t2]; omega))
  have CN0 : Hid (∀ w, Calls Tryz.prog 19 #[.string d, .int .i64 P] w fun e w' => e = .returned (.tuple #[.float .f64 b, .int .i64 0]) ∧ Below w.heap.size w w') := Lib.hid (fun w => by
    have h := CN.out d P w (by rw [D.out]; exact RD.out.2.1) (by rw [D.out]; exact RD.out.2.2) (by omega) (by omega) (by omega)
    rw [D.out, RD.out.1] at h
    exact h)
  rcases FACTS.out.2.2.2 with hone | ⟨q, q0, q1, q2, hlow, r1, r2⟩
  · have ds : (d.size : Int) = 1 := by omega
    clear ld hj CN
    cases g
    · go_wp2_with (first
        | (go_at_call 10; refine (CR1.out _ _ Z.out (G.out rfl)).mono ?_; rintro e w6 ⟨rfl, hb⟩; have B4 := Lib.hid (B4.out.trans (hb.mono B4.out.size)); clear hb)
        | (go_at_call 22; refine (CA.out _).mono ?_; rintro e w7 ⟨rfl, rfl⟩)
        | (go_at_call 19; (with_reducible refine (CN0.out _).mono ?_); rintro e w8 ⟨rfl, hb⟩; have B5 := Lib.hid (B4.out.trans (hb.mono B4.out.size)); clear hb))
      go_ret
      exact ⟨rfl, B5.out⟩
    · go_wp2_with (first
        | (go_at_call 10; refine (CR1.out _ _ Z.out (G.out rfl)).mono ?_; rintro e w6 ⟨rfl, hb⟩; have B4 := Lib.hid (B4.out.trans (hb.mono B4.out.size)); clear hb)
        | (go_at_call 22; refine (CA.out _).mono ?_; rintro e w7 ⟨rfl, rfl⟩)
        | (go_at_call 19; (with_reducible refine (CN0.out _).mono ?_); rintro e w8 ⟨rfl, hb⟩; have B5 := Lib.hid (B4.out.trans (hb.mono B4.out.size)); clear hb))
      go_ret
      exact ⟨rfl, B5.out⟩
  · have ne1 : ((d.size : Int) == 1) = false := beq_eq_false_iff_ne.2 (by omega)
    have F1 : ∀ W, (Instr.sliceAt 9 (.string d) none (some (.int .i64 (j : Int))) none).run Tryz.prog W = .ok (.string (d.extract 0 j)) W := fun W => by
      have := sl_to d (j : Int) (by omega) (by omega) W
      rwa [Int.toNat_natCast] at this
    have bx : bl (d.extract 0 j) = dgs q := by rw [bl_to, D.out, ← hlow, ← ld, hj, Nat.add_sub_cancel]
    have lx : (d.extract 0 j).size = j := by rw [ByteArray.size_extract]; omega
    have lq : (dgs q).length ≤ 18 := by rw [← bx, bl_len]; have := FACTS.out.1; omega
    have CN1 : Hid (∀ w, Calls Tryz.prog 19 #[.string (d.extract 0 j), .int .i64 P] w fun e w' => (∃ y, e = .returned (.tuple #[.float .f64 y, .int .i64 0]) ∧ (FloatKind.f64.format.order y b != some Ordering.eq) = true) ∧ Below w.heap.size w w') := Lib.hid (fun w => by
      have h := CN.out (d.extract 0 j) P w (by rw [bx]; exact dgs_dg q) (by rw [bx]; exact dgs_ne q) (by omega) (by omega) (by omega)
      rw [bx] at h
      refine h.mono ?_
      rintro e w' ⟨rfl, hb⟩
      exact ⟨⟨_, rfl, ord_diff (PP.out _ _) BL.out r1⟩, hb⟩)
    have lq1 : (dgs (q + 1)).length ≤ 18 := by
      rw [dgs_len]
      exact nd_le (by have : (10 : Nat) ^ 18 = 1000000000000000000 := by decide
                      omega) (by decide)
    have CN2 : Hid (∀ (z : ByteArray) (up : Int) w, bl z = dgs (q + 1) → up = (Lib.nDigits (q + 1) : Int) - Lib.nDigits q → Calls Tryz.prog 19 #[.string z, .int .i64 (P + up)] w fun e w' => (∃ y, e = .returned (.tuple #[.float .f64 y, .int .i64 0]) ∧ (FloatKind.f64.format.order y b != some Ordering.eq) = true) ∧ Below w.heap.size w w') := Lib.hid (fun z up w hz hu => by
      have a1 := dgs_len q
      have a2 := dgs_len (q + 1)
      have h := CN.out z (P + up) w (by rw [hz]; exact dgs_dg _) (by rw [hz]; exact dgs_ne _) (by rw [← bl_len, hz]; omega) (by omega) (by omega)
      rw [hz, hu] at h
      rw [hu]
      refine h.mono ?_
      rintro e w' ⟨rfl, hb⟩
      exact ⟨⟨_, rfl, ord_diff (PP.out _ _) BL.out r2⟩, hb⟩)
    have CM := Lib.hid (fun w => cMore (d.extract 0 j) q w bx q0 lq)
    have UB : Hid (∀ up : Int, up = (Lib.nDigits (q + 1) : Int) - Lib.nDigits q → -18 ≤ up ∧ up ≤ 18) := Lib.hid (fun up h => by
      have a1 := dgs_len q
      have a2 := dgs_len (q + 1)
      omega)
    clear ld hj CN q0 q1 q2 hlow r1 r2 bx lq lq1
    cases g
    · go_wp2_with (first
        | (go_at_call 10; refine (CR1.out _ _ Z.out (G.out rfl)).mono ?_; rintro e w6 ⟨rfl, hb⟩; have B4 := Lib.hid (B4.out.trans (hb.mono B4.out.size)); clear hb)
        | (go_at_call 22; refine (CA.out _).mono ?_; rintro e w7 ⟨rfl, rfl⟩)
        | (go_at_call 19; (with_reducible refine (CN0.out _).mono ?_); rintro e w8 ⟨rfl, hb⟩; have B5 := Lib.hid (B4.out.trans (hb.mono B4.out.size)); clear hb)
        | (go_at_call 23; refine (CM.out _).mono ?_; rintro e w9 ⟨⟨hi, up, rfl, hz, hu⟩, hb⟩; have MZ := Lib.hid (And.intro hz hu); have u1 := (UB.out up hu).1; have u2 := (UB.out up hu).2; have B6 := Lib.hid (B5.out.trans (hb.mono B5.out.size)); clear hb hz hu)
        | (go_at_call 19; (with_reducible refine (CN1.out _).mono ?_); rintro e w10 ⟨⟨y1, rfl, hy1⟩, hb⟩; have B7 := Lib.hid (B6.out.trans (hb.mono B6.out.size)); clear hb)
        | (go_at_call 19; (with_reducible refine (CN2.out _ _ _ MZ.out.1 MZ.out.2).mono ?_); rintro e w11 ⟨⟨y2, rfl, hy2⟩, hb⟩; have B9 := Lib.hid (B7.out.trans (hb.mono B7.out.size)); clear hb))
      go_ret
      exact ⟨rfl, B9.out⟩
    · go_wp2_with (first
        | (go_at_call 10; refine (CR1.out _ _ Z.out (G.out rfl)).mono ?_; rintro e w6 ⟨rfl, hb⟩; have B4 := Lib.hid (B4.out.trans (hb.mono B4.out.size)); clear hb)
        | (go_at_call 22; refine (CA.out _).mono ?_; rintro e w7 ⟨rfl, rfl⟩)
        | (go_at_call 19; (with_reducible refine (CN0.out _).mono ?_); rintro e w8 ⟨rfl, hb⟩; have B5 := Lib.hid (B4.out.trans (hb.mono B4.out.size)); clear hb)
        | (go_at_call 23; refine (CM.out _).mono ?_; rintro e w9 ⟨⟨hi, up, rfl, hz, hu⟩, hb⟩; have MZ := Lib.hid (And.intro hz hu); have u1 := (UB.out up hu).1; have u2 := (UB.out up hu).2; have B6 := Lib.hid (B5.out.trans (hb.mono B5.out.size)); clear hb hz hu)
        | (go_at_call 19; (with_reducible refine (CN1.out _).mono ?_); rintro e w10 ⟨⟨y1, rfl, hy1⟩, hb⟩; have B7 := Lib.hid (B6.out.trans (hb.mono B6.out.size)); clear hb)
        | (go_at_call 19; (with_reducible refine (CN2.out _ _ _ MZ.out.1 MZ.out.2).mono ?_); rintro e w11 ⟨⟨y2, rfl, hy2⟩, hb⟩; have B9 := Lib.hid (B7.out.trans (hb.mono B7.out.size)); clear hb))
      go_ret
      exact ⟨rfl, B9.out⟩
end Go.Proofs.YtjkifbkehochoaaGreatDoor
