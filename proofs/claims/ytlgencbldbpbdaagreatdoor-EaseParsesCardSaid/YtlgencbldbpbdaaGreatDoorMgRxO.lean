/- EaseParses: the walk. The walk of EaseParses, as the card wants it. -/
import Derived.Test.YtlgencbldbpbdaaGreatDoorMgRxK
import Derived.Test.YtlgencbldbpbdaaGreatDoorRxN
import Derived.Test.YtlgencbldbpbdaaGreatDoorMgOpF
import Derived.Deep.RegionHeld3
import Derived.Test.YtlgencbldbpbdaaGreatDoorEwA
namespace Go.Proofs.YtlgencbldbpbdaaGreatDoor
open Go.RowKit Fl
theorem print_ref {w w' : World} {z : Ez} {h a b c d : Nat} {n : Int} {J : ByteArray} {l1 l2 l3 : Option Addr} {m1 m2 m3 c1 c2 c3 : Nat} (hz : OKZ z) (hr : REz w z (.agg #[.int .u8 h, .float .f64 a, .float .f64 b, .float .f64 c, .float .f64 d, .int .i64 n, .string J, .slice l1 m1 c1, .slice l2 m2 c2, .slice l3 m3 c3])) (hb : Below w.heap.size w w') :
  Calls Tryz.prog 22 #[.agg #[.int .u8 h, .float .f64 a, .float .f64 b, .float .f64 c, .float .f64 d, .int .i64 n, .string J, .slice l1 m1 c1, .slice l2 m2 c2, .slice l3 m3 c3]] w' fun e w2 => (∃ s : ByteArray, e = .returned (.string s) ∧ bl s = textE z) ∧ Below w'.heap.size w' w2 := by
 obtain ⟨h', a', b', c', d', n', J', L, i, o, e, -, -, -, h2⟩ := hr
 injection e with e
 have e2 := congrArg Array.toList e
 simp only [List.cons.injEq, Value.int.injEq, Value.float.injEq, Value.string.injEq, true_and, and_true] at e2
 obtain ⟨e0, e1, e3, e4, e5, e6, e7, e8, e9, e10⟩ := e2
 have e0' : h = h' := by omega
 subst e0' e1 e3 e4 e5 e6 e7 e8 e9 e10
 cases z with
 | line =>
   have h2 : h = 108 := h2
   subst h2
   exact k22_line a b c d n J l1 l2 l3 m1 m2 m3 c1 c2 c3 w'
 | curve p q r t =>
   obtain ⟨g0, g1, g2, g3, g4⟩ := h2
   subst g0 g1 g2 g3 g4
   exact k22_curve a b c d hz.1.1 hz.2.1.1 hz.2.2.1.1 hz.2.2.2.1.1 n J l1 l2 l3 m1 m2 m3 c1 c2 c3 w'
 | steps q j =>
   obtain ⟨g0, g1, g2⟩ := h2
   subst g0 g1
   exact k22_steps a b c d q j hz.2.1 J g2 (by rw [← bl_len, g2]; exact (jName_len hz.2.2.1 hz.2.2.2.1).2) l1 l2 l3 m1 m2 m3 c1 c2 c3 w'
 | pts ps =>
   obtain ⟨g0, g1⟩ := h2
   subst g0
   have g2 := g1.below hb
   obtain ⟨A, c9, e9, -⟩ := g1
   injection e9 with e9 e10 e11
   subst e9 e10 e11
   exact k22_pts a b c d n J A l2 l3 m2 m3 c1 c2 c3 ps w' g2 hz.2.2 hz.2.1
set_option maxRecDepth 100000 in
set_option maxHeartbeats 4000000 in
theorem walkEaseParses (s : ByteArray) (w : World) (he : EW w) (hv : w.cell? ⟨1, 0, none⟩ = some hvError) : Calls Tryz.prog 6 #[.string s] w fun e w' => e = .returned (.bool true) ∧ Below w.heap.size w w' := by
 have C11 := Lib.hid (k11 w he)
 have h1lt : 1 < w.heap.size := by
  rcases Nat.lt_or_ge 1 w.heap.size with h | h
  ·exact h
  ·simp [World.cell?, Array.getElem?_eq_none h] at hv
 have HW := Lib.hid (And.intro he (And.intro hv h1lt))
 obtain ⟨R, hR⟩ : ∃ R, R = parseF (bl s) := ⟨_, rfl⟩
 have HR := Lib.hid hR
 have C12 := Lib.hid (fun (w1 : World) (h : EW w1) => k12 s w1 h)
 have C20 := Lib.hid (fun (w1 : World) => k20 s w1)
 rw [← hR] at C12 C20
 have hsf := fun (a : Addr) (x : Nat) (m : Mode) (W : World) => (show (store a (.float .f64 x) m).run Tryz.prog W = stored Tryz.prog W a (.float .f64 x) m from run_store Tryz.prog W a _ m rfl)
 clear he hR hv h1lt
 cases R with
 | none =>
   have D12 : Hid (∀ w1, EW w1 → Calls Tryz.prog 12 #[.string s] w1 fun e w' => BadR w1 e w') := C12
   have D20 : Hid (∀ w1, Calls Tryz.prog 20 #[.string s] w1 fun e w' => RefR w1 none e w') := C20
   clear C12 C20
   go_enter Tryz.func6, Tryz.ntmps6
   go_upto_region 4 with (first
    | (go_at_call 11; refine C11.out.mono ?_; rintro e w1 ⟨rfl, hb⟩; have B1 := Lib.hid hb; clear hb)
    | (go_at_call 12; refine (D12.out _ (HW.out.1.below B1.out)).mono ?_; rintro e w2 ⟨N, rfl, h⟩; have B2 := Lib.hid h; clear h)
    | (go_at_call 20; refine (D20.out _).mono ?_; rintro e w3 ⟨⟨v, rfl, h, x1, x2, x3, x4, n, J, L, i, o, rfl, ⟨la, lm, lc, rfl⟩, ⟨ia, im, ic, rfl⟩, ⟨oa, om, oc, rfl⟩⟩, hb⟩; have B3 := Lib.hid hb; clear hb))
   refine wp_genY (fun wx => Below w3.heap.size w3 wx) ((Below.refl _ w3).alloc (Nat.le_refl _) _) ?_
   intro w4 SM4
   have B4 := Lib.hid SM4
   clear SM4
   have B24 : Hid (Below w2.heap.size w2 w4) := Lib.hid (B3.out.trans (B4.out.mono B3.out.size))
   have B14 : Hid (Below w.heap.size w w4) := Lib.hid (B1.out.trans ((B2.out.2.2.2.2.mono B1.out.size).trans (B24.out.mono (Nat.le_trans B1.out.size B2.out.2.2.2.2.size))))
   have C21 := Lib.hid (k21 N w4 ((B14.out.cell (p := ⟨1, 0, none⟩) HW.out.2.2).trans HW.out.2.1) (Nat.lt_of_lt_of_le B2.out.2.1 B24.out.size) ((B24.out.cell (p := ⟨N, 0, none⟩) B2.out.2.1).trans B2.out.2.2.1) ((B24.out.cell (p := ⟨N, 1, none⟩) B2.out.2.1).trans B2.out.2.2.2.1))
   clear C11 D12 D20
   go_wp2_with (go_at_call 21; refine C21.out.mono ?_; rintro e w5 ⟨rfl, hb⟩; have B5 := Lib.hid hb; clear hb)
   go_ret
   exact ⟨rfl, B14.out.trans (B5.out.mono B14.out.size)⟩
 | some z =>
   have D12 : Hid (∀ w1, EW w1 → Calls Tryz.prog 12 #[.string s] w1 fun e w' => OkR w1 z e w') := C12
   have D20 : Hid (∀ w1, Calls Tryz.prog 20 #[.string s] w1 fun e w' => RefR w1 (some z) e w') := C20
   have OK := Lib.hid (parse_ok HR.out.symm)
   clear C12 C20
   go_enter Tryz.func6, Tryz.ntmps6
   go_upto_region 4 with (first
    | (go_at_call 11; refine C11.out.mono ?_; rintro e w1 ⟨rfl, hb⟩; have B1 := Lib.hid hb; clear hb)
    | (go_at_call 12; refine (D12.out _ (HW.out.1.below B1.out)).mono ?_; rintro e w2 ⟨b, rfl, h⟩; have B2 := Lib.hid h; clear h)
    | (go_at_call 20; refine (D20.out _).mono ?_; rintro e w3 ⟨⟨v, rfl, h, x1, x2, x3, x4, n, J, L, i, o, rfl, ⟨la, lm, lc, rfl⟩, ⟨ia, im, ic, rfl⟩, ⟨oa, om, oc, rfl⟩, hz⟩, hb⟩; have B3 := Lib.hid hb; have Z3 := Lib.hid hz; clear hb hz))
   obtain ⟨g, hg⟩ : ∃ g, g = w3.heap.size := ⟨_, rfl⟩
   have RZ : Hid (REz w3 z (.agg #[.int .u8 h, .float .f64 x1, .float .f64 x2, .float .f64 x3, .float .f64 x4, .int .i64 n, .string J, .slice la lm lc, .slice ia im ic, .slice oa om oc])) := Lib.hid ⟨h, x1, x2, x3, x4, n, J, _, _, _, rfl, ⟨_, _, _, rfl⟩, ⟨_, _, _, rfl⟩, ⟨_, _, _, rfl⟩, Z3.out⟩
   obtain ⟨T, hT⟩ : ∃ T : ByteArray, bl T = textE z := by
    obtain ⟨T, v, -, hT, -⟩ := B2.out.2.1.2
    exact ⟨T, hT⟩
   have C13 : Hid (∀ wy, Below w3.heap.size w3 wy → Calls Tryz.prog 13 #[.pointer (some ⟨b, 0, none⟩)] wy fun e w' => e = .returned (.string T) ∧ wy = w') := Lib.hid (fun wy hb => (k13 b z wy ((B2.out.2.1.below B3.out).below hb)).mono fun e w' ⟨⟨s1, h1, h2⟩, h3⟩ => ⟨by rw [h1, bl_inj (h2.trans hT.symm)], h3⟩)
   have C22 : Hid (∀ wy, Below w3.heap.size w3 wy → Calls Tryz.prog 22 #[.agg #[.int .u8 h, .float .f64 x1, .float .f64 x2, .float .f64 x3, .float .f64 x4, .int .i64 n, .string J, .slice la lm lc, .slice ia im ic, .slice oa om oc]] wy fun e w' => e = .returned (.string T) ∧ Below wy.heap.size wy w') := Lib.hid (fun wy hb => (print_ref OK.out RZ.out hb).mono fun e w' ⟨⟨s1, h1, h2⟩, h3⟩ => ⟨by rw [h1, bl_inj (h2.trans hT.symm)], h3⟩)
   have B13 : Hid (Below w.heap.size w w3) := Lib.hid (B1.out.trans ((B2.out.2.2.mono B1.out.size).trans (B3.out.mono (Nat.le_trans B1.out.size B2.out.2.2.size))))
   have K0 : Hid (BK (w3.alloc (.cells #[.int .u8 h, .float .f64 x1, .float .f64 x2, .float .f64 x3, .float .f64 x4, .int .i64 n, .string J, .slice la lm lc, .slice ia im ic, .slice oa om oc] 43)) w3.heap.size #[.int .u8 h, .float .f64 x1, .float .f64 x2, .float .f64 x3, .float .f64 x4, .int .i64 n, .string J, .slice la lm lc, .slice ia im ic, .slice oa om oc] 43 ∧ Below w3.heap.size w3 (w3.alloc (.cells #[.int .u8 h, .float .f64 x1, .float .f64 x2, .float .f64 x3, .float .f64 x4, .int .i64 n, .string J, .slice la lm lc, .slice ia im ic, .slice oa om oc] 43))) := Lib.hid ⟨heap_alloc_new w3 _, (Below.refl _ w3).alloc (Nat.le_refl _) _⟩
   clear C11 D12 D20 hT
   refine wp_genY (fun wx => BK wx w3.heap.size #[.int .u8 h, .float .f64 x1, .float .f64 x2, .float .f64 x3, .float .f64 x4, .int .i64 n, .string J, .slice la lm lc, .slice ia im ic, .slice oa om oc] 43 ∧ Below w3.heap.size w3 wx) K0.out ?_
   intro w4 SM4
   rw [← hg] at SM4 ⊢
   have H4 := Lib.hid SM4
   have HG := Lib.hid hg
   clear SM4 K0 hg
   go_upto_region 8 with fail
   go_cut [2] (fun u wy => u = .bool true ∧ Hid (Below w4.heap.size w4 wy))
   case first =>
    rename_i JJ QQ HRJ HMK
    have J9 : Hid (Below w4.heap.size w4 w4.drew) := Lib.hid ⟨rfl, rfl, rfl, Nat.le_refl _, fun _ _ => rfl⟩
    have BB : Hid (∀ wy : World, Below w4.heap.size w4 wy → Below w3.heap.size w3 wy) := Lib.hid fun wy hh => by
     have := H4.out.2
     rw [HG.out] at this
     exact this.trans (hh.mono this.size)
    have KK : Hid (∀ wy : World, Below w4.heap.size w4 wy → wy.cell? ⟨g, 0, none⟩ = some (.int .u8 h) ∧ wy.cell? ⟨g, 1, none⟩ = some (.float .f64 x1) ∧ wy.cell? ⟨g, 2, none⟩ = some (.float .f64 x2) ∧ wy.cell? ⟨g, 3, none⟩ = some (.float .f64 x3) ∧ wy.cell? ⟨g, 4, none⟩ = some (.float .f64 x4) ∧ wy.cell? ⟨g, 5, none⟩ = some (.int .i64 n) ∧ wy.cell? ⟨g, 6, none⟩ = some (.string J) ∧ wy.cell? ⟨g, 7, none⟩ = some (.slice la lm lc) ∧ wy.cell? ⟨g, 8, none⟩ = some (.slice ia im ic) ∧ wy.cell? ⟨g, 9, none⟩ = some (.slice oa om oc)) := Lib.hid fun wy hh =>
     have k := H4.out.1.below hh
     ⟨k.cell 0, k.cell 1, k.cell 2, k.cell 3, k.cell 4, k.cell 5, k.cell 6, k.cell 7, k.cell 8, k.cell 9⟩
    obtain ⟨t0, t1, t2, t3, t4, t5, t6, t7, t8, t9⟩ := KK.out _ J9.out
    go_region_held3 (fun w' => w'.cell? ⟨g, 0, none⟩ = some (.int .u8 h) ∧ w'.cell? ⟨g, 1, none⟩ = some (.float .f64 x1) ∧ w'.cell? ⟨g, 2, none⟩ = some (.float .f64 x2) ∧ w'.cell? ⟨g, 3, none⟩ = some (.float .f64 x3) ∧ w'.cell? ⟨g, 4, none⟩ = some (.float .f64 x4) ∧ w'.cell? ⟨g, 5, none⟩ = some (.int .i64 n) ∧ w'.cell? ⟨g, 6, none⟩ = some (.string J) ∧ w'.cell? ⟨g, 7, none⟩ = some (.slice la lm lc) ∧ w'.cell? ⟨g, 8, none⟩ = some (.slice ia im ic) ∧ w'.cell? ⟨g, 9, none⟩ = some (.slice oa om oc)) (exact KK.out _ J9.out) (first
     | (go_at_call 13; (with_reducible refine (C13.out _ (BB.out _ J9.out)).mono ?_); rintro e w7 ⟨rfl, rfl⟩)
     | (go_at_call 22; (with_reducible refine (C22.out _ (BB.out _ J9.out)).mono ?_); rintro e w5 ⟨rfl, hb⟩; replace J9 := Lib.hid (J9.out.trans (hb.mono J9.out.size)); clear hb))
    all_goals
     refine HMK _ _ (Met.intro (HRJ _ _ ?_))
     (repeat apply Exists.intro)
     exact ⟨⟨rfl, J9⟩, rfl⟩
   case rest =>
    obtain ⟨rfl, hJ⟩ := hcut
    go_wp2_with fail
    go_ret
    have b4 := H4.out.2
    rw [HG.out] at b4
    exact ⟨rfl, B13.out.trans ((b4.mono B13.out.size).trans (hJ.out.mono (Nat.le_trans B13.out.size b4.size)))⟩
end Go.Proofs.YtlgencbldbpbdaaGreatDoor
namespace Go.Proofs.YtlgencbldbpbdaaGreatDoor
open Go.RowKit Fl
theorem ety : Tryz.prog.globalNamed "errors.errorType" = some 1 := by kernel_rfl
theorem rty : (Tryz.prog.cutTypes.find? (·.1 == "internal/reflectlite.rtype")).map (·.2) = some 218 := by kernel_rfl
theorem tsize : Tryz.prog.types.size = 362 := by kernel_rfl
theorem oneRow : ((List.range 362).filter fun t => Tryz.prog.rowNamed t [101, 114, 114, 111, 114]) = [26] := by kernel_rfl
theorem handle_of_laid {laid : List (String × DataW Unit)} (hl : (laid.filter fun x => x.2.handleName?.isSome) = [("errors.errorType", Rows.laid_errors_errorType)]) {W : World} (h : laidMetH Tryz.prog laid W) : W.cell? ⟨1, 0, none⟩ = some hvError := by
 unfold laidMetH at h
 rw [hl] at h
 obtain ⟨name, u, ty, e1, e2, e3, e4, e5⟩ := h.2 _ (List.mem_singleton.2 rfl)
 have en : name = [101, 114, 114, 111, 114] := (Option.some.inj e1).symm
 subst en
 obtain rfl := Option.some.inj (rty.symm.trans e2)
 have hm : ty ∈ (List.range 362).filter fun t => Tryz.prog.rowNamed t [101, 114, 114, 111, 114] := List.mem_filter.2 ⟨List.mem_range.2 (by rw [← tsize]; exact e3), e4⟩
 rw [oneRow] at hm
 obtain rfl := List.mem_singleton.1 hm
 have hh : typeHandle Tryz.prog 26 = .pointer (some ⟨10, 26, none⟩) := by kernel_rfl
 rw [hh] at e5
 have e6 := World.var?_cell ety e5 0
 rw [e6]; rfl
theorem parses_some : (Rows.easeParsesRow.laid.filter fun x => x.2.handleName?.isSome) = [("errors.errorType", Rows.laid_errors_errorType)] := by kernel_rfl
theorem parses_none : (Rows.easeParsesRow.laid.filter fun x => x.2.handleName?.isNone) = [("math/bits.deBruijn32tab", Rows.laid_math_bits_deBruijn32tab), ("math/bits.deBruijn64tab", Rows.laid_math_bits_deBruijn64tab), ("internal/strconv.uint64pow10", Rows.laid_internal_strconv_uint64pow10), ("unicode/utf8.acceptRanges", Rows.laid_unicode_utf8_acceptRanges), ("strconv.ErrRange", Rows.laid_strconv_ErrRange), ("strconv.ErrSyntax", Rows.laid_strconv_ErrSyntax), ("unicode/utf8.first", Rows.laid_unicode_utf8_first)] := by kernel_rfl
theorem ew_parses {w : World} (h : laidMetH Tryz.prog Rows.easeParsesRow.laid w) (hS : w.ShapedOpen Tryz.prog) : EW w ∧ w.cell? ⟨1, 0, none⟩ = some hvError := by
 refine ⟨?_, handle_of_laid parses_some h⟩
 have h1 : laidMet Tryz.prog (Rows.easeParsesRow.laid.filter fun x => x.2.handleName?.isNone) w := by
  unfold laidMetH at h
  rw [parses_some] at h
  exact h.1
 rw [parses_none] at h1
 exact ew_of h1 (.tail _ (.tail _ (.head _))) (.tail _ (.tail _ (.tail _ (.tail _ (.tail _ (.head _)))))) hS
theorem walkParses (W : World) (hL : laidMetH Tryz.prog Rows.easeParsesRow.laid W) (hS : W.ShapedOpen Tryz.prog) (s : ByteArray) {p : Prop} (_ : p) :
  Calls Tryz.prog 6 #[.string s] W fun e w' => e = .returned (.bool true) ∧ Below W.heap.size W w' :=
 walkEaseParses s W (ew_parses hL hS).1 (ew_parses hL hS).2
end Go.Proofs.YtlgencbldbpbdaaGreatDoor
