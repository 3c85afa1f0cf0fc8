/- The law SceneStands: the walk. -/
import Derived.Test.YtedkbjimofiphaaStAB
namespace Go.Proofs.Ytedkbjimofiphaa
open Go.RowKit Fl

set_option maxRecDepth 100000 in
set_option maxHeartbeats 8000000 in
theorem stands4 (w : World) (A : Option Addr) (n c : Nat) (lo : Bool) (S : Nat → SH) (hS : ∀ k, k < n → (S k).OK ∧ (S k).Z) (hSL : SL w A n 24 S SH.cells) :
    Calls Try.prog 4 #[.slice A n c, .bool lo] w fun e w' => e = .returned (.bool true) ∧ Below w.heap.size w w' := by
  have H := Lib.hid (And.intro hS hSL)
  obtain ⟨m, hm⟩ : ∃ m, m = min n 300 := ⟨_, rfl⟩
  have m3 : m ≤ 300 := by omega
  have mi : ∀ i, i < m ↔ i < n ∧ i < 300 := fun i => by omega
  obtain ⟨iS, s1, s2, s3, s4⟩ := info_parts infoS
  have IS := Lib.hid (And.intro s1 (And.intro s2 (And.intro s3 s4)))
  clear hm hS hSL s1 s2 s3 s4
  go_enter Try.func4, Try.ntmps4
  go_wp2_with fail
  go_at_call 6
  refine (awake6 w).mono ?_
  rintro e w1 ⟨rfl, hb1⟩
  have B1 := Lib.hid hb1
  clear hb1
  have H0 := Lib.hid (show BU m lo (fun _ => A0s) 0 ∧ ST w1 w1 (.slice none 0 0) (fun _ => A0s) 0 from ⟨⟨fun k hk => absurd hk (Nat.not_lt_zero _), fun k hk => absurd hk (Nat.not_lt_zero _), fun _ k hk => absurd hk (Nat.not_lt_zero _)⟩, ⟨World.ownsRow_nil .., Below.refl _ _⟩⟩)
  go_wp2_with fail
  go_loopw [6, 7, 8, 9, 10] (fun sv ii _ _ _ wx => ∃ (i : Nat) (G : Nat → SH), ii = .int .i64 (i : Int) ∧ i ≤ m ∧ Hid (BU m lo G i ∧ ST w1 wx sv G i)) (fun _ ii _ _ _ _ => m - (intOf ii).toNat)
  case atStart => exact ⟨0, _, by go_num, by omega, H0⟩
  case round =>
    obtain ⟨i, G, rfl, him, hI⟩ := hrel
    obtain ⟨ps, cs, rfl, -⟩ := owned_slice hI.out.2.o
    clear H0
    by_cases hlt : i < m
    · have hin := ((mi i).1 hlt).1
      have hii : (i : Int) < (n : Int) := by omega
      have di : decide ((0 : Int) ≤ (i : Int)) = true := decide_eq_true (by omega)
      obtain ⟨b, o, hA, hb, hr⟩ : ∃ b o, A = some ⟨b, o, none⟩ ∧ b < w.heap.size ∧ ∀ k, k < n → w.rangeAt b (o + k * 24) (S k).cells := by
        rcases H.out.2 with h | h
        · omega
        · exact h
      have OKI := Lib.hid (H.out.1 i hin).1
      have ZI := Lib.hid (H.out.1 i hin).2
      have RI := Lib.hid (range_below (range_below (hr i hin) B1.out hb) hI.out.2.b (Nat.lt_of_lt_of_le hb B1.out.size))
      have S1 := Lib.hid (show (Try.prog.info? 56).map (·.size) = some (S i).cells.length by rw [sh_len OKI.out]; exact sz56)
      have M1 := Lib.hid (show (S i).cells.toArray.size = 24 by rw [List.size_toArray]; exact sh_len OKI.out)
      have T1 := Lib.hid (show (wr.alloc (.cells Z24 56)).there wr.heap.size 0 (S i).cells.toArray.size by rw [M1.out]; exact there_new wr Z24 56 24 rfl)
      have SZ := Lib.hid (show (Try.prog.info? 56).map (·.size) = some (S i).cells.toArray.size by rw [M1.out]; exact sz56)
      have OL := Lib.hid (all_oneCell_toArray (sh_one (S i)))
      obtain ⟨n1, n2, n3, n4⟩ := new_row wr Z24 56 (S i).cells (by rw [sh_len OKI.out]; rfl)
      have SP2 := Lib.hid (show SP wr ((wr.alloc (.cells Z24 56)).setCells wr.heap.size 0 (S i).cells) wr.heap.size (S i) from ⟨n2, by rwa [sh_len OKI.out] at n3, Nat.le_refl _, by omega, n1⟩)
      clear hr hb n1 n2 n3 n4 hin
      subst hA
      go_upto_region 4 with fail
      refine streg4 wr (some ⟨b, o, none⟩) n c i true _ _ _ _ _ _ _ _ _ _ _ _ _ _ _ _ _ _ _ _ _ _ _ _ _ _ _ _ _ _ _ _ _ _ _ _ _ _ _ _ _ _ _ _ _ _ _ _ _ _ _ _ _ _ _ _ _ _ _ _ _ _ _ _ _ _ _ _ _ _ _ _ _ _ _ _ _ _ _ _ _ _ _ _ _ _ _ _ _ _ _ _ _ _ _ _ _ _ _ _ _ _ _ _ _ _ _ _ _ _ _ _ _ _ _ _ _ _ _ _ _ _ _ _ _ _ _ _ _ _ _ _ _ _ _ _ _ _ _ _ _ _ _ _ _ _ _ _ _ _ _ _ _ _ _ _ _ _ _ _ _ _ _ _ _ _ _ _ _ _ _ _ _ _ _ _ _ _ _ _ _ _ _ _ _ _ _ _ _ _ _ _ _ _ _ _ _ _ _ _ _ _ _ _ _ _ _ _ _ _ _ _ _ _ _ _ _ _ _ _ _ (by simpa using (mi i).1 hlt) (fun v25 v26 v27 v28 v29 v30 v31 => ?_)
      go_upto_region 6 with fail
      go_upto_region 7 with (first
        | (refine wpList_load_mid rfl 56 (.tmp 37) rfl b (o + i * 24) rfl (S i).cells _ RI.out Try.underlying56 rfl S1.out ?_)
        | (refine wpList_store_mid rfl 56 (.tmp 8) (.tmp 38) rfl wr.heap.size 0 (S i).cells.toArray rfl rfl T1.out SZ.out OL.out ?_))
      show Code.wp _ _ _ _ ((wr.alloc (.cells Z24 56)).setCells wr.heap.size 0 (S i).cells)
      clear T1 SZ OL RI S1 M1
      generalize (wr.alloc (.cells Z24 56)).setCells wr.heap.size 0 (S i).cells = w2 at *
      generalize wr.heap.size = p at *
      have c0 := SP2.out.cell (j := 0) rfl
      have f0 := SP2.out.fro (j := 0) (by omega)
      go_upto_region 8 with fail
      have SP3 := Lib.hid (SP2.out.set0 ((i : Int) + 1))
      clear c0 f0 SP2
      generalize w2.setCell ⟨p, 0, none⟩ (.int .i64 ((i : Int) + 1)) = w3 at *
      cases lo with
      | false =>
        go_upto_region 16 with fail
        have S5 := Lib.hid (SP3.out)
        have T5 := Lib.hid (hI.out.2.below S5.out.b)
        have OK5 := Lib.hid (show ({ S i with slot := (i : Int) + 1 }).OK from { OKI.out with  })
        have R5 := Lib.hid S5.out.r
        have BU5 := Lib.hid (hI.out.1.add OK5.out rfl (fun h => by cases h))
        generalize hs5 : ({ S i with slot := (i : Int) + 1 } : SH) = s5 at *
        have E5 := Lib.hid hs5
        clear hs5
        have SZ5 := Lib.hid (show (Try.prog.info? 56).map (·.size) = some s5.cells.length by rw [sh_len OK5.out]; exact sz56)
        have LN5 := Lib.hid (sh_len OK5.out)
        have V5 := Lib.hid (show ∀ v ∈ [Value.agg s5.cells.toArray], v.cells.size = 24 from fun v hv => by rw [List.mem_singleton.1 hv]; show s5.cells.toArray.size = 24; rw [List.size_toArray]; exact LN5.out)
        have O5 := Lib.hid (T5.out.o.alloc (.cells ([Value.agg s5.cells.toArray].flatMap fun v => v.cells.toList).toArray 56))
        have NC5 := Lib.hid (new_row2 w3 s5.cells 56)
        generalize w3 = w5 at *
        clear hI SP3
        go_upto_region 16 with fail
        go_wp2_with (first
          | (refine wpList_load_mid rfl 56 (.tmp 8) rfl p 0 rfl s5.cells _ R5.out Try.underlying56 rfl SZ5.out ?_)
          | (refine Go.Great.wpList_buildRows rfl 22 56 #[(0, .tmp 65)] 24 [.agg s5.cells.toArray] rfl (fun _ => 65) w5.heap.size rfl (some 66) rfl Try.underlying22 (by rw [IS.out.1]; exact congrArg some IS.out.2.2.1) (by rw [IS.out.1, Option.bind_some, IS.out.2.1]; rfl) (by decide) (Nat.succ_pos 0) (show 1 * 24 ≤ 2 ^ 24 by decide) rfl V5.out (fun k hk => by match k, hk with | 0, _ => rfl) ?_)
          | (at_builtin; refine wpList_append_strong rfl _ _ 22 rfl w1.heap.size 56 iS (.agg Z24) 24 192 Try.underlying22 IS.out.1 IS.out.2.1 IS.out.2.2.1 IS.out.2.2.2 rfl (by decide) _ _ _ rfl O5.out ⟨w5.heap.size, 0, none⟩ 1 1 s5.cells rfl ?b0 NC5.out (sh_one _) ?b3 ?b4 ?b5 (by decide) ?_))
        case b0 => rw [LN5.out]
        case b3 => unfold maxLen; omega
        case b4 => omega
        case b5 => have := T5.out.b.size; simp; omega
        intro v7 w7 hown hgrow hblk
        have T7 := Lib.hid (T5.out.push ((Below.refl _ _).alloc (Nat.le_refl _) _) hown hgrow)
        clear hown hgrow hblk O5 NC5 T5
        go_wp2_with fail
        go_roundw
        case rel => exact ⟨i + 1, _, by go_num, by omega, Lib.hid ⟨BU5.out, T7.out⟩⟩
        case measure => simp [intOf]; omega
      | true =>
        have c1 := SP3.out.cell (j := 1) rfl
        have CP := Lib.hid (pick14 w3 (S i).ab 4 ZI.out ⟨by decide, by decide⟩)
        have c1 : w3.cell? ⟨p, 1, none⟩ = some (.int .i64 (S i).ab) := c1
        go_upto_region 10 with fail
        go_wp2_with fail
        go_at_call 14
        refine CP.out.mono ?_
        rintro e w4 ⟨⟨q, rfl, hq0, hq4⟩, rfl⟩
        have C0 := Lib.hid (CZ.start m G i)
        clear CP c1
        go_wp2_with fail
        go_loopw [9, 10] (fun kk nn wx => ∃ z q : Int, kk = .int .i64 z ∧ nn = .int .i64 q ∧ q < 4 ∧ Hid (CZ m G i z) ∧ wx = w3) (fun _ nn _ => (intOf nn).toNat)
        case atStart => exact ⟨_, q, by go_num, rfl, hq4, C0, rfl⟩
        case round =>
          obtain ⟨z, q, rfl, rfl, hq, hC, rfl⟩ := hrel
          clear C0
          by_cases ht : 0 < q ∧ 0 ≤ z
          · go_upto_region 11 with fail
            refine streg11 _ q z true _ _ _ _ _ _ _ _ _ _ _ _ _ _ _ _ _ _ _ _ _ _ _ _ _ _ _ _ _ _ _ _ _ _ _ _ _ _ _ _ _ _ _ _ _ _ _ _ _ _ _ _ _ _ _ _ _ _ _ _ _ _ _ _ _ _ _ _ _ _ _ _ _ _ _ _ _ _ _ _ _ _ _ _ _ _ _ _ _ _ _ _ _ _ _ _ _ _ _ _ _ _ _ _ _ _ _ _ _ _ _ _ _ _ _ _ _ _ _ _ _ _ _ _ _ _ _ _ _ _ _ _ _ _ _ _ _ _ _ _ _ _ _ _ _ _ _ _ _ _ _ _ _ _ _ _ _ _ _ _ _ _ _ _ _ _ _ _ _ _ _ _ _ _ _ _ _ _ _ _ _ _ _ _ _ _ _ _ _ _ _ _ _ _ _ _ _ _ _ _ _ _ _ _ _ _ _ _ _ _ _ _ _ _ _ _ _ _ _ _ _ (by simpa using ht) (fun v48 v49 v50 v51 v52 => ?_)
            obtain ⟨a, rfl⟩ : ∃ a : Nat, z = (a : Int) := ⟨z.toNat, by omega⟩
            have ai : a < i := by
              rcases hC.out with h | ⟨a', h1, h2, -⟩
              · omega
              · omega
            obtain ⟨gs, hps, -, hgs⟩ := owned_some hI.out.2.o (by omega)
            subst hps
            have T3 := hI.out.2.below SP3.out.b
            have ca := T3.above hI.out.1.ok ai
            have aii : (a : Int) < (i : Int) := by omega
            have C1 := Lib.hid (hC.out.step hI.out.1 hlt)
            clear T3 hC
            go_wp2_with fail
            go_roundw
            case rel => exact ⟨_, q - 1, rfl, by go_num, by omega, C1, trivial⟩
            case measure => simp [intOf]; omega
          · go_upto_region 11 with fail
            refine streg11 _ q z false _ _ _ _ _ _ _ _ _ _ _ _ _ _ _ _ _ _ _ _ _ _ _ _ _ _ _ _ _ _ _ _ _ _ _ _ _ _ _ _ _ _ _ _ _ _ _ _ _ _ _ _ _ _ _ _ _ _ _ _ _ _ _ _ _ _ _ _ _ _ _ _ _ _ _ _ _ _ _ _ _ _ _ _ _ _ _ _ _ _ _ _ _ _ _ _ _ _ _ _ _ _ _ _ _ _ _ _ _ _ _ _ _ _ _ _ _ _ _ _ _ _ _ _ _ _ _ _ _ _ _ _ _ _ _ _ _ _ _ _ _ _ _ _ _ _ _ _ _ _ _ _ _ _ _ _ _ _ _ _ _ _ _ _ _ _ _ _ _ _ _ _ _ _ _ _ _ _ _ _ _ _ _ _ _ _ _ _ _ _ _ _ _ _ _ _ _ _ _ _ _ _ _ _ _ _ _ _ _ _ _ _ _ _ _ _ _ _ _ _ _ (by simpa using ht) (fun v48 v49 v50 v51 v52 => ?_)
            have c1 : wr.cell? ⟨p, 1, none⟩ = some (.int .i64 (S i).ab) := SP3.out.cell (j := 1) rfl
            have f1 := SP3.out.fro (j := 1) (by omega)
            go_upto_region 15 with fail
            have SP4 := Lib.hid (SP3.out.set1 z)
            clear c1 f1
            generalize wr.setCell ⟨p, 1, none⟩ (.int .i64 z) = w4 at *
            have st23 := store1 SP4.out.t (o := 23) (by omega) 0
            go_upto_region 16 with fail
            have SP6 := Lib.hid (SP4.out.set23 OKI.out.m.1 0)
            clear st23 SP4
            have S5 := Lib.hid (SP6.out)
            have T5 := Lib.hid (hI.out.2.below S5.out.b)
            have OK5 := Lib.hid (show ({ S i with slot := (i : Int) + 1, ab := z, v := 0 }).OK from { OKI.out with v := U_zero })
            have R5 := Lib.hid S5.out.r
            have BU5 := Lib.hid (hI.out.1.add OK5.out rfl (fun _ => ⟨rfl, hC.out⟩))
            generalize hs5 : ({ S i with slot := (i : Int) + 1, ab := z, v := 0 } : SH) = s5 at *
            have E5 := Lib.hid hs5
            clear hs5
            have SZ5 := Lib.hid (show (Try.prog.info? 56).map (·.size) = some s5.cells.length by rw [sh_len OK5.out]; exact sz56)
            have LN5 := Lib.hid (sh_len OK5.out)
            have V5 := Lib.hid (show ∀ v ∈ [Value.agg s5.cells.toArray], v.cells.size = 24 from fun v hv => by rw [List.mem_singleton.1 hv]; show s5.cells.toArray.size = 24; rw [List.size_toArray]; exact LN5.out)
            have O5 := Lib.hid (T5.out.o.alloc (.cells ([Value.agg s5.cells.toArray].flatMap fun v => v.cells.toList).toArray 56))
            have NC5 := Lib.hid (new_row2 (w4.setCell ⟨p, 23, none⟩ (.float .f64 0)) s5.cells 56)
            generalize (w4.setCell ⟨p, 23, none⟩ (.float .f64 0)) = w5 at *
            clear hI SP3
            go_upto_region 16 with fail
            go_wp2_with (first
              | (refine wpList_load_mid rfl 56 (.tmp 8) rfl p 0 rfl s5.cells _ R5.out Try.underlying56 rfl SZ5.out ?_)
              | (refine Go.Great.wpList_buildRows rfl 22 56 #[(0, .tmp 65)] 24 [.agg s5.cells.toArray] rfl (fun _ => 65) w5.heap.size rfl (some 66) rfl Try.underlying22 (by rw [IS.out.1]; exact congrArg some IS.out.2.2.1) (by rw [IS.out.1, Option.bind_some, IS.out.2.1]; rfl) (by decide) (Nat.succ_pos 0) (show 1 * 24 ≤ 2 ^ 24 by decide) rfl V5.out (fun k hk => by match k, hk with | 0, _ => rfl) ?_)
              | (at_builtin; refine wpList_append_strong rfl _ _ 22 rfl w1.heap.size 56 iS (.agg Z24) 24 192 Try.underlying22 IS.out.1 IS.out.2.1 IS.out.2.2.1 IS.out.2.2.2 rfl (by decide) _ _ _ rfl O5.out ⟨w5.heap.size, 0, none⟩ 1 1 s5.cells rfl ?c0 NC5.out (sh_one _) ?c3 ?c4 ?c5 (by decide) ?_))
            case c0 => rw [LN5.out]
            case c3 => unfold maxLen; omega
            case c4 => omega
            case c5 => have := T5.out.b.size; simp; omega
            intro v7 w7 hown hgrow hblk
            have T7 := Lib.hid (T5.out.push ((Below.refl _ _).alloc (Nat.le_refl _) _) hown hgrow)
            clear hown hgrow hblk O5 NC5 T5
            go_wp2_with fail
            go_roundw
            case rel => exact ⟨i + 1, _, by go_num, by omega, Lib.hid ⟨BU5.out, T7.out⟩⟩
            case measure => simp [intOf]; omega
    · have e : m = i := by omega
      subst e
      have nlt : ¬ (m < n ∧ m < 300) := fun h => absurd ((mi m).2 h) (by omega)
      go_upto_region 4 with fail
      refine streg4 wr A n c m false _ _ _ _ _ _ _ _ _ _ _ _ _ _ _ _ _ _ _ _ _ _ _ _ _ _ _ _ _ _ _ _ _ _ _ _ _ _ _ _ _ _ _ _ _ _ _ _ _ _ _ _ _ _ _ _ _ _ _ _ _ _ _ _ _ _ _ _ _ _ _ _ _ _ _ _ _ _ _ _ _ _ _ _ _ _ _ _ _ _ _ _ _ _ _ _ _ _ _ _ _ _ _ _ _ _ _ _ _ _ _ _ _ _ _ _ _ _ _ _ _ _ _ _ _ _ _ _ _ _ _ _ _ _ _ _ _ _ _ _ _ _ _ _ _ _ _ _ _ _ _ _ _ _ _ _ _ _ _ _ _ _ _ _ _ _ _ _ _ _ _ _ _ _ _ _ _ _ _ _ _ _ _ _ _ _ _ _ _ _ _ _ _ _ _ _ _ _ _ _ _ _ _ _ _ _ _ _ _ _ _ _ _ _ _ _ _ _ _ _ _ (by simpa using nlt) (fun v25 v26 v27 v28 v29 v30 v31 => ?_)
      clear nlt him hlt mi
      have HB := Lib.hid hI.out.1
      have CR := Lib.hid (row_any wr ps m cs G w1 HB.out.ok hI.out.2 m3)
      go_upto_region 17 with fail
      go_wp2_with fail
      go_at_call 7
      refine CR.out.mono fun e w2 ⟨bv, lv, he, hR, hz⟩ => ?_
      subst he
      have T2 := Lib.hid (hI.out.2.below hR.bl)
      have CP := Lib.hid (painted_any wr w2 m lo G bv lv HB.out hR hz m3)
      clear CR hR hz hI
      go_upto_region 18 with fail
      go_wp2_with fail
      go_at_call 8
      refine CP.out.mono fun e w3 ⟨po, co, av, he, hp, hb⟩ => ?_
      subst he
      have T3 := Lib.hid (T2.out.below hb)
      have P3 := Lib.hid hp
      have B3 := Lib.hid (show Below w.heap.size w w3 from B1.out.trans (T3.out.b.mono B1.out.size))
      have AB := Lib.hid (show m = 0 ∨ ∃ gs, ps = some ⟨gs, 0, none⟩ ∧ gs < w3.heap.size ∧ ∀ i, i < m → w3.cell? ⟨gs, i * 24 + 1, none⟩ = some (.int .i64 (G i).ab) from by
        rcases Nat.eq_zero_or_pos m with h0 | h0
        · exact .inl h0
        · have T := T3.out
          obtain ⟨gs, hps, -, hgs⟩ := owned_some T.o h0
          rw [hps] at T
          exact .inr ⟨gs, hps, hgs, fun i hi => T.above HB.out.ok hi⟩)
      obtain ⟨w4, mk4, b4, D4⟩ := made58 w3 m m3
      obtain ⟨w5, mk5, b5, D5⟩ := made58 w4 m m3
      have nn : ((m : Int) != (m : Int)) = false := by simp
      have L0 := Lib.hid (show L3 w3 w5 w3.heap.size w4.heap.size G m 0 (List.replicate m 0) (List.replicate m 0) from
        ⟨b4.trans (b5.mono b4.size), Nat.le_refl _, b4.size, by have := D4.l; omega, D4.below b5 D4.l, D5, List.length_replicate .., List.length_replicate .., fun j x hj => absurd hj (Nat.not_lt_zero _), fun x hx _ => by rw [List.getElem?_replicate, if_pos hx]⟩)
      clear b4 D4 b5 D5 hp hb CP T2 T3 H B1
      go_upto_region 19 with fail
      go_upto_region 21 with fail
      go_wp2_with fail
      go_loopw [17, 18] (fun ii _ wx => ∃ (i : Nat) (d e : List Nat), ii = .int .i64 (i : Int) ∧ i ≤ m ∧ Hid (L3 w3 wx w3.heap.size w4.heap.size G m i d e)) (fun ii _ _ => m - (intOf ii).toNat)
      case atStart => exact ⟨0, _, _, by go_num, by omega, L0⟩
      case round =>
        obtain ⟨i, d, e, rfl, him, hL⟩ := hrel
        clear L0 mk4 mk5 nn
        by_cases hlt : i < m
        · have hii : (i : Int) < (m : Int) := by omega
          have di : decide ((i : Int) < (m : Int)) = true := decide_eq_true hii
          obtain ⟨x, hx⟩ : ∃ x, (WH G m)[i]? = some x := ⟨_, List.getElem?_eq_getElem (by rw [WH.len]; exact hlt)⟩
          have xm : x < m := WH.mem.1 (List.mem_of_getElem? hx)
          obtain ⟨gp, hpo, hgp, hcell⟩ : ∃ g, po = some ⟨g, 0, none⟩ ∧ g < w3.heap.size ∧ ∀ k x : Nat, (WH G m)[k]? = some x → w3.cell? ⟨g, k * 23, none⟩ = some (.int .u32 ((x : Int) + 1)) := by
            rcases P3.out with h | h
            · omega
            · exact h
          subst hpo
          have cx : wr.cell? ⟨gp, i * 23, none⟩ = some (.int .u32 ((x : Int) + 1)) := ((hL.out.b).cell (p := ⟨gp, i * 23, none⟩) hgp).trans (hcell i x hx)
          have ce : wr.cell? ⟨w4.heap.size, x, none⟩ = some (.int .i64 0) := hL.out.de.get (hL.out.free hx)
          have fe := hL.out.de.fro (j := x) (by rw [hL.out.le]; exact xm)
          obtain ⟨yd, hyd⟩ : ∃ y, d[x]? = some y := ⟨_, List.getElem?_eq_getElem (by rw [hL.out.ld]; exact xm)⟩
          have cd := hL.out.da.get (j := x) hyd
          have fd := hL.out.da.fro (j := x) (by rw [hL.out.ld]; exact xm)
          have hne := hL.out.ne
          have hne2 := Ne.symm hne
          have L1 := Lib.hid (hL.out.next hx)
          have LW := Lib.hid (show lo = true → x = i from fun h => by
            subst h
            have hx := hx
            rw [WH.low HB.out, List.getElem?_range hlt] at hx
            injection hx with hx; exact hx.symm)
          have dx0 : decide ((x : Int) < 0) = false := decide_eq_false (by omega)
          have xmi : (x : Int) < (m : Int) := by omega
          have dxm : decide ((m : Int) ≤ (x : Int)) = false := decide_eq_false (by omega)
          have xm1 : (x : Int) + 1 ≤ 300 := by omega
          clear hcell hgp hx hL xm hyd
          cases lo with
          | false =>
            go_upto_region 29 with fail
            go_wp2_with fail
            go_roundw
            case rel => exact ⟨i + 1, _, _, by go_num, by omega, L1⟩
            case measure => simp [intOf]; omega
          | true =>
            obtain rfl := LW.out rfl
            have nxx : ((x : Int) != (x : Int)) = false := by simp
            go_upto_region 29 with fail
            go_wp2_with fail
            go_roundw
            case rel => exact ⟨x + 1, _, _, by go_num, by omega, L1⟩
            case measure => simp [intOf]; omega
        · have e1 : m = i := by omega
          subst e1
          have b6 := hL.out.b
          obtain ⟨w6, mk6, c6, D6⟩ := made58 wr m m3
          have FD := Lib.hid (show ∀ j x, (WH G m)[j]? = some x → d[x]? = some j from fun j x h => hL.out.fd j x (by have := (List.getElem?_eq_some_iff.1 h).1; rwa [WH.len] at this) h)
          have LD := Lib.hid (hL.out.ld)
          have gag : w3.heap.size < wr.heap.size := hL.out.da.l
          have L0 := Lib.hid (show L4 w3 w6 w3.heap.size wr.heap.size G m m d (List.replicate m 0) from
            ⟨b6.trans (c6.mono b6.size), b6.size, by omega, hL.out.da.below c6 hL.out.da.l, D6, List.length_replicate .., fun k hk => ⟨0, by rw [List.getElem?_replicate, if_pos hk], by omega⟩⟩)
          clear b6 c6 D6 hL gag P3
          generalize wr.heap.size = gm at *
          go_upto_region 31 with fail
          go_wp2_with fail
          go_loopw [20, 21] (fun ii _ wx => ∃ (t : Nat) (e : List Nat), ii = .int .i64 ((t : Int) - 1) ∧ t ≤ m ∧ Hid (L4 w3 wx w3.heap.size gm G m t d e)) (fun ii _ _ => (intOf ii + 1).toNat)
          case atStart => exact ⟨m, _, by go_num, Nat.le_refl _, L0⟩
          case round =>
            obtain ⟨t, e, rfl, htm, hL⟩ := hrel
            clear L0 mk6
            cases t with
            | succ i =>
              have eq1 : ((i + 1 : Nat) : Int) - 1 = (i : Int) := by omega
              rw [eq1]
              have him : i < m := by omega
              have hii : (i : Int) < (m : Int) := by omega
              have di : decide ((0 : Int) ≤ (i : Int)) = true := decide_eq_true (by omega)
              obtain ⟨gs, hps, hgs, hab⟩ : ∃ gs, ps = some ⟨gs, 0, none⟩ ∧ gs < w3.heap.size ∧ ∀ i, i < m → w3.cell? ⟨gs, i * 24 + 1, none⟩ = some (.int .i64 (G i).ab) := by
                rcases AB.out with h | h
                · omega
                · exact h
              subst hps
              have ca : wr.cell? ⟨gs, i * 24 + 1, none⟩ = some (.int .i64 (G i).ab) := ((hL.out.b).cell (p := ⟨gs, i * 24 + 1, none⟩) hgs).trans (hab i him)
              obtain ⟨z, hz⟩ : ∃ z, z = (G i).ab := ⟨_, rfl⟩
              rw [← hz] at ca
              have HZ := Lib.hid hz
              clear hz
              go_upto_region 36 with fail
              by_cases hu : 0 ≤ z ∧ z < (i : Int)
              · refine streg36 wr i z true _ _ _ _ _ _ _ _ _ _ _ _ _ _ _ _ _ _ _ _ _ _ _ _ _ _ _ _ _ _ _ _ _ _ _ _ _ _ _ _ _ _ _ _ _ _ _ _ _ _ _ _ _ _ _ _ _ _ _ _ _ _ _ _ _ _ _ _ _ _ _ _ _ _ _ _ _ _ _ _ _ _ _ _ _ _ _ _ _ _ _ _ _ _ _ _ _ _ _ _ _ _ _ _ _ _ _ _ _ _ _ _ _ _ _ _ _ _ _ _ _ _ _ _ _ _ _ _ _ _ _ _ _ _ _ _ _ _ _ _ _ _ _ _ _ _ _ _ _ _ _ _ _ _ _ _ _ _ _ _ _ _ _ _ _ _ _ _ _ _ _ _ _ _ _ _ _ _ _ _ _ _ _ _ _ _ _ _ _ _ _ _ _ _ _ _ _ _ _ _ _ _ _ _ _ _ _ _ _ _ _ _ _ _ _ _ _ _ _ _ _ (by simpa using hu) (fun v153 v154 v155 v156 v157 v158 => ?_)
                obtain ⟨u, rfl⟩ : ∃ u : Nat, z = (u : Int) := ⟨z.toNat, by omega⟩
                have hui : u < i := by omega
                have ha := abO_some HZ.out.symm hui
                obtain ⟨yu, e1, e2⟩ := hL.out.f u (by omega)
                obtain ⟨yi, e3, e4⟩ := hL.out.f i him
                have cu := hL.out.dm.get e1
                have ci := hL.out.dm.get e3
                have fu := hL.out.dm.fro (j := u) (by rw [hL.out.le]; omega)
                have L1 := Lib.hid (show L4 w3 ((wr.setCell ⟨gm, u, none⟩ (.int .i64 ((yu : Int) + 1 + (yi : Int)))).drew) w3.heap.size gm G m i d (e.set u (yu + 1 + yi)) from by
                  have T := hL.out.next him ha e1 e3
                  rw [show ((yu + 1 + yi : Nat) : Int) = (yu : Int) + 1 + (yi : Int) by push_cast; rfl] at T
                  exact T.drew1)
                have l1 := belowT_le G m u (by omega)
                have l2 := belowT_le G m i him
                have s1 : (yu : Int) + 1 ≤ 400 := by omega
                have s2 : (yu : Int) + 1 + (yi : Int) ≤ 1000 := by omega
                have um : (u : Int) < (m : Int) := by omega
                clear ca hab hgs HZ ha e1 e2 e3 e4 l1 l2 hL
                go_upto_region 37 with fail
                go_region
                all_goals go_wp2
                all_goals go_roundw
                case rel => exact ⟨i, _, by go_num, by omega, L1⟩
                case measure => simp [intOf]
              · refine streg36 wr i z false _ _ _ _ _ _ _ _ _ _ _ _ _ _ _ _ _ _ _ _ _ _ _ _ _ _ _ _ _ _ _ _ _ _ _ _ _ _ _ _ _ _ _ _ _ _ _ _ _ _ _ _ _ _ _ _ _ _ _ _ _ _ _ _ _ _ _ _ _ _ _ _ _ _ _ _ _ _ _ _ _ _ _ _ _ _ _ _ _ _ _ _ _ _ _ _ _ _ _ _ _ _ _ _ _ _ _ _ _ _ _ _ _ _ _ _ _ _ _ _ _ _ _ _ _ _ _ _ _ _ _ _ _ _ _ _ _ _ _ _ _ _ _ _ _ _ _ _ _ _ _ _ _ _ _ _ _ _ _ _ _ _ _ _ _ _ _ _ _ _ _ _ _ _ _ _ _ _ _ _ _ _ _ _ _ _ _ _ _ _ _ _ _ _ _ _ _ _ _ _ _ _ _ _ _ _ _ _ _ _ _ _ _ _ _ _ _ _ _ _ _ (by simpa using hu) (fun v153 v154 v155 v156 v157 v158 => ?_)
                have L1 := Lib.hid (hL.out.skip (abO_none (by rw [← HZ.out]; exact hu)))
                clear ca hab hgs HZ hL
                go_wp2_with fail
                go_roundw
                case rel => exact ⟨i, _, by go_num, by omega, L1⟩
                case measure => simp [intOf]
            | zero =>
              have eq1 : ((0 : Nat) : Int) - 1 = -1 := rfl
              rw [eq1]
              go_wp2_with fail
              go_loopw [22, 23] (fun ii _ wx => ∃ i : Nat, ii = .int .i64 (i : Int) ∧ i ≤ m ∧ Hid (L4 w3 wx w3.heap.size gm G m 0 d e)) (fun ii _ _ => m - (intOf ii).toNat)
              case atStart => exact ⟨0, by go_num, Nat.zero_le _, hL⟩
              case round =>
                clear hL
                obtain ⟨i, rfl, him, hL⟩ := hrel
                by_cases hlt : i < m
                · have hii : (i : Int) < (m : Int) := by omega
                  have di : decide ((i : Int) < (m : Int)) = true := decide_eq_true hii
                  obtain ⟨gs, hps, hgs, hab⟩ : ∃ gs, ps = some ⟨gs, 0, none⟩ ∧ gs < w3.heap.size ∧ ∀ i, i < m → w3.cell? ⟨gs, i * 24 + 1, none⟩ = some (.int .i64 (G i).ab) := by
                    rcases AB.out with h | h
                    · omega
                    · exact h
                  subst hps
                  have ca : wr.cell? ⟨gs, i * 24 + 1, none⟩ = some (.int .i64 (G i).ab) := ((hL.out.b).cell (p := ⟨gs, i * 24 + 1, none⟩) hgs).trans (hab i hlt)
                  obtain ⟨z, hz⟩ : ∃ z, z = (G i).ab := ⟨_, rfl⟩
                  rw [← hz] at ca
                  have HZ := Lib.hid hz
                  clear hz hab hgs
                  go_upto_region 42 with fail
                  clear ca
                  by_cases h1 : 0 ≤ z
                  · have d1 : decide (0 ≤ z) = true := decide_eq_true h1
                    by_cases h2 : z < (i : Int)
                    · obtain ⟨u, rfl⟩ : ∃ u : Nat, z = (u : Int) := ⟨z.toNat, by omega⟩
                      have hui : u < i := by omega
                      have d2 : decide ((u : Int) < (i : Int)) = true := decide_eq_true h2
                      have ha := abO_some HZ.out.symm hui
                      obtain ⟨q, hq⟩ := List.mem_iff_getElem?.1 (WH.mem.2 hlt : i ∈ WH G m)
                      obtain ⟨p, hp⟩ := List.mem_iff_getElem?.1 (WH.mem.2 (show u < m by omega) : u ∈ WH G m)
                      obtain ⟨yu, e1, e2⟩ := hL.out.f u (by omega)
                      obtain ⟨yi, e3, e4⟩ := hL.out.f i hlt
                      have IN := WH.inside hlt ha hp hq
                      have lq : q < m := by have := (List.getElem?_eq_some_iff.1 hq).1; rwa [WH.len] at this
                      have lp : p < m := by have := (List.getElem?_eq_some_iff.1 hp).1; rwa [WH.len] at this
                      have l1 := belowT_le G m u (by omega)
                      have l2 := belowT_le G m i hlt
                      have z1 : belowT G m 0 u = 0 := rfl
                      have z2 : belowT G m 0 i = 0 := rfl
                      have c1 := hL.out.da.get (FD.out q i hq)
                      have c2 := hL.out.da.get (FD.out p u hp)
                      have c3 := hL.out.dm.get e1
                      have c4 := hL.out.dm.get e3
                      have um : (u : Int) < (m : Int) := by omega
                      have D1 : decide (q ≤ p) = false := decide_eq_false (by omega)
                      have D3 : decide (p + yu < q + yi) = false := decide_eq_false (by omega)
                      have D2 : decide ((p : Int) + (yu : Int) < (q : Int) + (yi : Int)) = false := decide_eq_false (by omega)
                      have W1 : IntKind.i64.wrap ((q : Int) + (yi : Int)) = (q : Int) + (yi : Int) := IntWalk.i64_in _ (by omega)
                      have W2 : IntKind.i64.wrap ((p : Int) + (yu : Int)) = (p : Int) + (yu : Int) := IntWalk.i64_in _ (by omega)
                      have HL := hL
                      clear hL ha hq hp e1 e2 e3 e4 IN lq lp l1 l2 z1 z2 HZ
                      go_quiet (fail)
                      have L1 := Lib.hid (HL.out.drew (q := nq))
                      clear c1 c2 c3 c4 D1 D2 D3 W1 W2 HL
                      go_wp2_with fail
                      go_roundw
                      case rel => exact ⟨i + 1, by go_num, by omega, L1⟩
                      case measure => simp [intOf]; omega
                    · have d2 : decide (z < (i : Int)) = false := decide_eq_false h2
                      go_quiet (fail)
                      have L1 := Lib.hid (hL.out.drew (q := nq))
                      clear hL
                      go_wp2_with fail
                      go_roundw
                      case rel => exact ⟨i + 1, by go_num, by omega, L1⟩
                      case measure => simp [intOf]; omega
                  · have d1 : decide (0 ≤ z) = false := decide_eq_false h1
                    go_quiet (fail)
                    have L1 := Lib.hid (hL.out.drew (q := nq))
                    clear hL
                    go_wp2_with fail
                    go_roundw
                    case rel => exact ⟨i + 1, by go_num, by omega, L1⟩
                    case measure => simp [intOf]; omega
                · have e1 : m = i := by omega
                  subst e1
                  have BE := Lib.hid (B3.out.trans (hL.out.b.mono B3.out.size))
                  go_wp2
                  go_ret
                  exact ⟨rfl, BE.out⟩
end Go.Proofs.Ytedkbjimofiphaa
