/- The law SceneParts: the walk. -/
import Derived.Test.YtedkbjimofiphaaSpC
import Derived.Test.YtedkbjimofiphaaMgOpA
namespace Go.Proofs.Ytedkbjimofiphaa
open Go.RowKit Fl
set_option maxRecDepth 100000 in
set_option maxHeartbeats 1000000 in
theorem items_none (w : World) (A : Option Addr) (c0 : Nat) : Calls Try.prog 15 #[.slice A 0 c0] w fun e w' => e = .returned (.slice none 0 0) ∧ w = w' := by
  have d0 : decide ((0 : Int) < 0) = false := by decide
  go_enter Try.func15, Try.ntmps15
  go_wp2_with fail
  go_loopw [3, 4] (fun vv ii wx => vv = .slice none 0 0 ∧ ii = .int .i64 0 ∧ w = wx) (fun _ _ _ => 0)
  case atStart => exact ⟨rfl, by go_num, rfl⟩
  case round =>
    obtain ⟨rfl, rfl, rfl⟩ := hrel
    go_wp2
    go_ret
    exact ⟨rfl, rfl⟩
theorem items_any (w : World) (A : Option Addr) (n c : Nat) (L : Nat → LW) (hL : ∀ i, i < n → (L i).OK) (h : SL w A n 22 L LW.cells) (hn : n ≤ 1048576) :
    Calls Try.prog 15 #[.slice A n c] w fun e w' => ∃ p c', e = .returned (.slice p n c') ∧ IS w w' (.slice p n c') (fun k => (L k).it) n := by
  rcases Nat.eq_zero_or_pos n with h0 | h0
  · subst h0
    exact (items_none w A c).mono fun e w' ⟨he, hw⟩ => ⟨none, 0, he, ⟨World.ownsRow_nil .., hw ▸ Below.refl _ _⟩⟩
  · rcases h with h | ⟨b, o, rfl, hb, hr⟩
    · omega
    · exact (items15 w b o n c L hL hr hb hn).mono fun e w' ⟨v, he, hi⟩ => by
        obtain ⟨p, c', rfl, -⟩ := owned_slice hi.o
        exact ⟨p, c', he, hi⟩
/-- a slice of ints: none, or in a block -/
def ZL (w : World) (B : Option Addr) (nt : Nat) (z : Nat → Int) : Prop := nt = 0 ∨ ∃ b o, B = some ⟨b, o, none⟩ ∧ b < w.heap.size ∧ ∀ j, j < nt → w.cell? ⟨b, o + j, none⟩ = some (.int .i64 (z j)) ∧ -9223372036854775808 ≤ z j ∧ z j ≤ 9223372036854775807
set_option maxRecDepth 100000 in
set_option maxHeartbeats 16000000 in
theorem parts5 (w : World) (A B : Option Addr) (n c nt ct x y : Nat) (L : Nat → LW) (z : Nat → Int) (hL : ∀ i, i < n → (L i).OK) (hSL : SL w A n 22 L LW.cells) (hn : n ≤ 1048576) (hZ : ZL w B nt z) (hx : U x) (hy : U y) :
    Calls Try.prog 5 #[.agg #[.slice A n c, .slice B nt ct, .float .f64 x, .float .f64 y]] w fun e w' => e = .returned (.bool true) ∧ Below w.heap.size w w' := by
  obtain ⟨T, hT⟩ : ∃ T : Nat → ITM, T = fun k => (L k).it := ⟨_, rfl⟩
  have OK := Lib.hid (show ∀ k, k < n → (T k).OK from fun k hk => by rw [hT]; exact LW.itOK (hL k hk))
  obtain ⟨W0, hW0⟩ : ∃ W0, W0 = w.alloc (.cells #[.slice A n c, .slice B nt ct, .float .f64 x, .float .f64 y] 64) := ⟨_, rfl⟩
  have s0 : W0.heap.size = w.heap.size + 1 := by rw [hW0]; simp
  have R0 : W0.rangeAt w.heap.size 0 [.slice A n c, .slice B nt ct, .float .f64 x, .float .f64 y] := by rw [hW0]; exact range_new w [.slice A n c, .slice B nt ct, .float .f64 x, .float .f64 y] 64
  have B0 := Lib.hid (show Below w.heap.size w W0 by rw [hW0]; exact (Below.refl _ _).alloc (Nat.le_refl _) _)
  have RB := Lib.hid (show ∀ w', Below W0.heap.size W0 w' → w'.cell? ⟨w.heap.size, 0, none⟩ = some (.slice A n c) ∧ w'.cell? ⟨w.heap.size, 1, none⟩ = some (.slice B nt ct) ∧ w'.cell? ⟨w.heap.size, 2, none⟩ = some (.float .f64 x) ∧ w'.cell? ⟨w.heap.size, 3, none⟩ = some (.float .f64 y) from fun w' h => cells4 (range_below R0 h (by omega)))
  have HL := Lib.hid (show ∀ w', Below W0.heap.size W0 w' → SL w' A n 22 L LW.cells from fun w' h => by
    rcases hSL with h0 | ⟨b, o, hA, hb, hr⟩
    · exact .inl h0
    · have hb2 : Below w.heap.size w w' := B0.out.trans (h.mono (by omega))
      exact .inr ⟨b, o, hA, Nat.lt_of_lt_of_le hb hb2.size, fun k hk => range_below (hr k hk) hb2 hb⟩)
  have HZ := Lib.hid (show ∀ w', Below W0.heap.size W0 w' → ZL w' B nt z from fun w' h => by
    rcases hZ with h0 | ⟨b, o, hA, hb, hr⟩
    · exact .inl h0
    · have hb2 : Below w.heap.size w w' := B0.out.trans (h.mono (by omega))
      exact .inr ⟨b, o, hA, Nat.lt_of_lt_of_le hb hb2.size, fun k hk => ⟨(hb2.cell (p := ⟨b, o + k, none⟩) hb).trans (hr k hk).1, (hr k hk).2⟩⟩)
  have HU := Lib.hid (And.intro hx hy)
  have HT := Lib.hid hT
  have HLok := Lib.hid hL
  have HW := Lib.hid (And.intro hW0 s0)
  obtain ⟨i6, hi60, hz1, hz2⟩ : ∃ i0, Try.prog.info? 60 = some i0 ∧ i0.size = 23 ∧ i0.bytes = 176 := by
    have h := info60
    cases hx : Try.prog.info? 60 with
    | none => rw [hx] at h; cases h
    | some i0 => rw [hx] at h; simp at h; exact ⟨i0, rfl, h.1, h.2⟩
  obtain ⟨z6, hz0, hz3⟩ : ∃ z, i6.zero = some z ∧ z.cells.size = 23 := by
    have h := zero60
    rw [hi60, Option.bind_some] at h
    cases hx : i6.zero with
    | none => rw [hx] at h; cases h
    | some z => rw [hx] at h; exact ⟨z, rfl, by simpa using h⟩
  have H6 := Lib.hid (And.intro hi60 (And.intro hz0 (And.intro hz1 (And.intro hz2 hz3))))
  have CSZ := Lib.hid (show ((Try.prog.info? 60).map (·.size) = some 23) ∧ (((Try.prog.info? 60).bind (·.zero)).isSome = true) by rw [H6.out.1]; exact ⟨congrArg some H6.out.2.2.1, by rw [Option.bind_some, H6.out.2.1]; rfl⟩)
  clear hL hSL hZ hx hy hT R0 hW0 s0 hi60 hz0 hz1 hz2 hz3
  go_enter Try.func5, Try.ntmps5
  go_upto_region 1 with fail
  rw [← HW.out.1]
  go_wp2_with fail
  go_at_call 6
  refine (awake6 W0).mono ?_
  rintro e w1 ⟨rfl, hb1⟩
  have B1 := Lib.hid hb1
  have ⟨k0, k1, k2, k3⟩ := RB.out w1 hb1
  have C15 := Lib.hid (items_any w1 A n c L HLok.out (HL.out w1 hb1) hn)
  clear hb1
  go_wp2_with fail
  go_at_call 15
  refine C15.out.mono fun e w2 ⟨p, c', he, hI⟩ => ?_
  subst he
  rw [← HT.out] at hI
  have hb2 := hI.b
  have B2 := Lib.hid (B1.out.trans (hb2.mono B1.out.size))
  have I2 := Lib.hid (hI.it OK.out)
  clear k0 k1 k2 k3 hI hb2 C15 HLok HL
  have ⟨k0, k1, k2, k3⟩ := RB.out w2 B2.out
  have S0 := Lib.hid (show IS w2 w2 (.slice none 0 0) (trn T n) (n - n) from by rw [Nat.sub_self]; exact ⟨World.ownsRow_nil .., Below.refl _ _⟩)
  go_wp2_with fail
  clear k0 k1 k2 k3
  go_loopw [6, 7] (fun vv kk wx => ∃ q : Nat, kk = .int .i64 ((q : Int) - 1) ∧ q ≤ n ∧ Hid (IS w2 wx vv (trn T n) (n - q))) (fun _ kk _ => (intOf kk + 1).toNat)
  case atStart => exact ⟨n, rfl, Nat.le_refl _, S0⟩
  case round =>
    obtain ⟨q, rfl, hqn, hS⟩ := hrel
    clear S0
    cases q with
    | succ k =>
      have e1 : ((k + 1 : Nat) : Int) - 1 = (k : Int) := by omega
      rw [e1]
      have hk0 : (0 : Int) ≤ (k : Int) := by omega
      have hkn : (k : Int) < (n : Int) := by omega
      have hlt : k < n := by omega
      obtain ⟨pv, cv, rfl, -⟩ := owned_slice hS.out.o
      rcases I2.out with h0 | ⟨g, hp, hg, hr⟩
      · exact absurd h0 (by omega)
      · have RA := Lib.hid (range_below (hr k hlt) hS.out.b hg)
        have SZ := Lib.hid (sz60 (OK.out k hlt))
        have LL := Lib.hid (ITM.len (OK.out k hlt))
        have O1 := Lib.hid (ITM.one (T k))
        have OA := Lib.hid (hS.out.o.alloc (.cells ([Value.agg (T k).cells.toArray].flatMap fun v => v.cells.toList).toArray 60))
        have NC := Lib.hid (new_row2 wr (T k).cells 60)
        have hp := hp
        subst hp
        clear hr
        go_upto_region 8 with fail
        go_wp2_with (first
          | (refine wpList_load_mid rfl 60 (.tmp 38) rfl g (k * 23) rfl (T k).cells _ RA.out Try.underlying60 rfl SZ.out ?_)
          | (refine Go.Great.wpList_buildRows rfl 36 60 #[(0, .tmp 39)] 23 [.agg (T k).cells.toArray] rfl (fun _ => 39) wr.heap.size rfl (some 40) rfl Try.underlying36 CSZ.out.1 CSZ.out.2 (by decide) (Nat.succ_pos 0) (show 1 * 23 ≤ 2 ^ 24 by decide) rfl (fun v hv => by rw [List.mem_singleton.1 hv]; show (T k).cells.toArray.size = 23; rw [List.size_toArray]; exact LL.out) (fun k hk => by match k, hk with | 0, _ => rfl) ?_)
          | (at_builtin; refine wpList_append_strong rfl _ _ 36 rfl w2.heap.size 60 i6 z6 23 176 Try.underlying36 H6.out.1 H6.out.2.1 H6.out.2.2.1 H6.out.2.2.2.1 H6.out.2.2.2.2 (by decide) _ _ _ rfl OA.out ⟨wr.heap.size, 0, none⟩ 1 1 (T k).cells rfl ?c0 NC.out ?c2 ?c3 ?c4 ?c5 (by decide) ?_))
        case c0 => rw [LL.out]
        case c2 => exact O1.out
        case c3 => unfold maxLen; omega
        case c4 => omega
        case c5 => have := hS.out.b.size; simp; omega
        intro v3 w3 hown hgrow hblk
        have en : n - k = n - (k + 1) + 1 := by omega
        have S3 : Hid (IS w2 w3 v3 (trn T n) (n - k)) := Lib.hid (by
          rw [en]
          refine hS.out.push ((Below.refl _ _).alloc (Nat.le_refl _) _) ?_ hgrow
          have et : trn T n (n - (k + 1)) = T k := by unfold trn; congr 1; omega
          rw [et]; exact hown)
        obtain ⟨p3, c3, rfl, -⟩ := owned_slice hown
        clear hown hgrow hblk OA NC en
        go_wp2_with fail
        go_roundw
        case rel => exact ⟨k, rfl, by omega, S3⟩
        case measure => simp [intOf]
    | zero =>
      have e0 : ((0 : Nat) : Int) - 1 = -1 := rfl
      rw [e0]
      have hS0 := hS.out
      rw [Nat.sub_zero] at hS0
      obtain ⟨pt, cu, rfl, -⟩ := owned_slice hS0.o
      have OKt := Lib.hid (show ∀ k, k < n → (trn T n k).OK from fun k hk => OK.out _ (by omega))
      have J3 := Lib.hid (hS0.it OKt.out)
      have B3 := Lib.hid (B2.out.trans (hS0.b.mono B2.out.size))
      have I3 := Lib.hid (I2.out.below hS0.b)
      clear hS hS0 I2 B2
      generalize wr = w3 at *
      have CT := Lib.hid (total_any w3 p n c' T OK.out hn I3.out)
      go_upto_region 9 with fail
      go_wp2_with fail
      go_at_call 16
      refine CT.out.mono fun e w4 ⟨⟨a, b, q0, q1, q2, q3, he, hR⟩, hb4⟩ => ?_
      subst he
      have HR := Lib.hid hR
      have T4 := Lib.hid (there_new w4 #[.int .i64 0, .float .f64 0, .float .f64 0, .float .f64 0, .float .f64 0, .float .f64 0, .float .f64 0] 67 7 rfl)
      have N4 := Lib.hid (new_row w4 #[.int .i64 0, .float .f64 0, .float .f64 0, .float .f64 0, .float .f64 0, .float .f64 0, .float .f64 0] 67 (TO.cells n ⟨a, b, q0, q1, q2, q3⟩) rfl)
      have I4 := Lib.hid (I3.out.below hb4)
      have J4 := Lib.hid (J3.out.below hb4)
      have B4 := Lib.hid (B3.out.trans (hb4.mono B3.out.size))
      clear hR hb4 I3 J3 B3 CT
      go_upto_region 10 with (refine wpList_store_mid rfl 67 (.tmp 8) (.tmp 43) rfl w4.heap.size 0 (TO.cells n ⟨a, b, q0, q1, q2, q3⟩).toArray rfl rfl T4.out size67 (TO.all _ _) ?_)
      show Code.wp _ _ _ _ ((w4.alloc (.cells #[.int .i64 0, .float .f64 0, .float .f64 0, .float .f64 0, .float .f64 0, .float .f64 0, .float .f64 0] 67)).setCells w4.heap.size 0 (TO.cells n ⟨a, b, q0, q1, q2, q3⟩))
      obtain ⟨b8, r8, -, s8⟩ := N4.out
      have I5 := Lib.hid (I4.out.below b8)
      have J5 := Lib.hid (J4.out.below b8)
      have B5 := Lib.hid (B4.out.trans (b8.mono B4.out.size))
      have R5 := Lib.hid r8
      clear T4 N4 b8 r8 I4 J4 B4
      generalize (w4.alloc (.cells #[.int .i64 0, .float .f64 0, .float .f64 0, .float .f64 0, .float .f64 0, .float .f64 0, .float .f64 0] 67)).setCells w4.heap.size 0 (TO.cells n ⟨a, b, q0, q1, q2, q3⟩) = w5 at *
      generalize w4.heap.size = p8 at *
      have l8 : p8 < w5.heap.size := by omega
      clear s8
      refine sreg10 w5 T n p8 a b q0 q1 q2 q3 (.slice pt n cu) _ _ _ _ _ _ _ _ _ _ _ _ _ _ _ _ _ _ _ _ _ _ _ _ _ _ _ _ _ _ _ _ _ _ _ _ _ _ _ _ _ _ _ _ _ _ _ _ _ _ _ _ _ _ _ _ _ _ _ _ _ _ _ _ _ _ _ _ _ _ _ _ _ _ _ _ _ _ _ _ _ _ _ _ _ _ _ _ _ _ _ _ _ _ _ _ _ _ _ _ _ _ _ _ _ _ _ _ _ _ _ _ _ _ _ _ _ _ _ _ _ _ _ _ _ _ _ _ _ _ _ _ _ _ _ _ _ _ _ _ _ _ _ _ _ _ _ _ _ _ _ _ _ _ _ _ _ _ _ _ _ _ _ _ _ _ _ _ _ _ _ _ _ _ _ _ _ _ _ _ _ _ R5.out l8 HR.out (fun w' hb => total_any w' pt n cu (trn T n) OKt.out hn (J5.out.below hb)) (fun v44 v45 v46 v47 w6 hb => ?_)
      have I6 := Lib.hid (I5.out.below hb)
      have J6 := Lib.hid (J5.out.below hb)
      have B6 := Lib.hid (B5.out.trans (hb.mono B5.out.size))
      have R6 := Lib.hid (And.intro (range_below R5.out hb l8) (Nat.lt_of_lt_of_le l8 hb.size))
      clear hb l8 R5 I5 J5 B5
      have ⟨k0, k1, k2, k3⟩ := RB.out w6 B6.out
      have CH := Lib.hid (hit_any w6 p n c' x y T OK.out hn I6.out (RV.self HU.out.1) (RV.self HU.out.2))
      go_upto_region 11 with fail
      go_wp2_with fail
      go_at_call 18
      refine CH.out.mono fun e w7 ⟨v, he, hH⟩ => ?_
      subst he
      obtain ⟨L1, hL1⟩ : ∃ l, l = hitL (fun k => inP (T k) (pl x) (pl y)) n := ⟨_, rfl⟩
      have PP := Lib.hid (hit_pair (fun k => inP (T k) (pl x) (pl y)) n)
      have LN := Lib.hid (hitL_len (fun k => inP (T k) (pl x) (pl y)) n)
      rw [← hL1] at hH PP LN
      obtain ⟨ph, ch, rfl, -⟩ := owned_slice hH.o
      have hb := hH.b
      have H7 := Lib.hid hH
      have I7 := Lib.hid (I6.out.below hb)
      have J7 := Lib.hid (J6.out.below hb)
      have B7 := Lib.hid (B6.out.trans (hb.mono B6.out.size))
      have R7 := Lib.hid (And.intro (range_below R6.out.1 hb R6.out.2) (Nat.lt_of_lt_of_le R6.out.2 hb.size))
      clear hb hH hL1 k0 k1 k2 k3 CH R6 I6 J6 B6
      have ⟨k0, k1, k2, k3⟩ := RB.out w7 B7.out
      have CH := Lib.hid (hit_any w7 pt n cu x y (trn T n) OKt.out hn J7.out (RV.self HU.out.1) (RV.self HU.out.2))
      go_upto_region 12 with fail
      go_wp2_with fail
      go_at_call 18
      refine CH.out.mono fun e w8 ⟨v, he, hH⟩ => ?_
      subst he
      have hH : HS w7 w8 v (hitL (fun k => inP (T (n - 1 - k)) (pl x) (pl y)) n) (trn T n) := hH
      obtain ⟨L2, hL2⟩ : ∃ l, l = hitL (fun k => inP (T (n - 1 - k)) (pl x) (pl y)) n := ⟨_, rfl⟩
      rw [← hL2] at hH PP
      obtain ⟨pb, cb, hv, -⟩ := owned_slice hH.o
      rw [PP.out.1] at hv
      subst hv
      have hb := hH.b
      have G8 := Lib.hid hH
      have H8 := Lib.hid (H7.out.below hb)
      have I8 := Lib.hid (I7.out.below hb)
      have B8 := Lib.hid (B7.out.trans (hb.mono B7.out.size))
      have R8 := Lib.hid (And.intro (range_below R7.out.1 hb R7.out.2) (Nat.lt_of_lt_of_le R7.out.2 hb.size))
      clear hb hH hL2 k0 k1 k2 k3 CH R7 I7 J7 B7 H7 OKt
      obtain ⟨m, hm⟩ : ∃ m, m = L1.length := ⟨_, rfl⟩
      have HM := Lib.hid hm
      rw [← hm]
      have nn : ((m : Int) != (m : Int)) = false := by simp
      have hmn : m ≤ n := by have := LN.out; omega
      clear hm
      go_upto_region 15 with fail
      have K0 := Lib.hid (Below.refl w8.heap.size w8)
      go_wp2_with fail
      go_loopw [12] (fun ii wx => ∃ i : Nat, ii = .int .i64 (i : Int) ∧ i ≤ m ∧ Hid (Below w8.heap.size w8 wx)) (fun ii _ => m - (intOf ii).toNat)
      case atStart => exact ⟨0, by go_num, Nat.zero_le _, K0⟩
      case round =>
        obtain ⟨i, rfl, him, hK⟩ := hrel
        clear K0
        by_cases hlt : i < m
        · have hii : (i : Int) < (m : Int) := by omega
          have di : decide ((i : Int) < (m : Int)) = true := decide_eq_true hii
          obtain ⟨gh, hph, hgh, hrh⟩ := H8.out.at_ rfl (by rw [← HM.out]; exact hlt)
          obtain ⟨gb, hpb, hgb, hrb⟩ := G8.out.at_ (p := pb) (c := cb) (by rw [PP.out.1]) (i := m - 1 - i) (by rw [PP.out.1, ← HM.out]; omega)
          have ra := range_below (hrh i (by rw [← HM.out]; exact hlt)) hK.out hgh
          have rb := range_below (hrb (m - 1 - i) (by rw [PP.out.1, ← HM.out]; omega)) hK.out hgb
          have eT : trn T n (L2.getD (m - 1 - i) 0) = T (L1.getD i 0) := by
            have := PP.out.2 i (by rw [← HM.out]; exact hlt)
            rw [← HM.out] at this
            unfold trn; rw [this]
          rw [eT] at rb
          have a0 := ra 0 _ rfl
          have a1 := ra 1 _ rfl
          have b0 := rb 0 _ rfl
          have b1 := rb 1 _ rfl
          simp only [Nat.add_zero] at a0 b0
          generalize T (L1.getD i 0) = t at *
          subst hph hpb
          have ne := ne30
          have w1 : IntKind.i64.wrap ((m : Int) - 1) = (m : Int) - 1 := IntWalk.i64_in _ (by omega)
          have w2 : IntKind.i64.wrap ((m : Int) - 1 - (i : Int)) = ((m - 1 - i : Nat) : Int) := by rw [IntWalk.i64_in _ (by omega)]; omega
          have z1 : ((m - 1 - i : Nat) : Int) < (m : Int) := by omega
          have z2 : (((m - 1 - i : Nat) : Int)).toNat = m - 1 - i := by omega
          clear ra rb eT hrh hrb
          go_upto_region 18 with fail
          go_quiet (fail)
          have K9 := Lib.hid (below_drewN (q := nq) hK.out)
          clear a0 a1 b0 b1 ne w1 w2 z1 z2 hK
          generalize wr.drewN nq = w9 at *
          go_wp2_with fail
          go_roundw
          case rel => exact ⟨i + 1, by go_num, by omega, K9⟩
          case measure => simp [intOf]; omega
        · have e : i = m := by omega
          subst e
          have di : decide ((i : Int) < (i : Int)) = false := decide_eq_false (by omega)
          have hb := hK.out
          have I9 := Lib.hid (I8.out.below hb)
          have B9 := Lib.hid (B8.out.trans (hb.mono B8.out.size))
          have R9 := Lib.hid (And.intro (range_below R8.out.1 hb R8.out.2) (Nat.lt_of_lt_of_le R8.out.2 hb.size))
          clear hb hK I8 B8 R8 H8 G8 PP LN HM nn
          generalize wr = w9 at *
          go_upto_region 20 with fail
          go_wp2_with fail
          go_at_call 19
          refine (c35 w9).mono ?_
          rintro e w10 ⟨rfl, ha, hb, hs⟩
          have I10 := Lib.hid (And.intro ha (And.intro hb hs))
          clear ha hb hs
          go_wp2_with fail
          go_at_call 19
          refine (c35 w10).mono ?_
          rintro e w11 ⟨rfl, ha, hb, hs⟩
          have I11 := Lib.hid (And.intro ha (And.intro hb hs))
          clear ha hb hs
          go_upto_region 25 with fail
          obtain ⟨w12, hw12⟩ : ∃ w12, w12 = w11.alloc (.cells #[.slice none 0 0, .slice none 0 0, .slice none 0 0] 73) := ⟨_, rfl⟩
          have P0 : PS3 w12 w12 w9.heap.size w10.heap.size w11.heap.size w12.heap.size n T 0 0 0 [] [] (fun _ => .slice none 0 0) (fun _ => []) := by
            have s12 : w12.heap.size = w11.heap.size + 1 := by rw [hw12]; simp
            have b12 : Below w11.heap.size w11 w12 := by rw [hw12]; exact (Below.refl _ _).alloc (Nat.le_refl _) _
            have h1 := I10.out.2.2
            have h2 := I11.out.2.2
            refine ⟨Keep.refl _ _ _, Nat.le_refl _, (I10.out.1.below I11.out.2.1 (by omega)).below b12 (by omega), I11.out.1.below b12 (by omega), by omega, fun x hx => (by cases hx), fun x hx => (by cases hx), rfl, rfl, ?_, ?_, fun k hk => World.ownsRow_nil .., fun j k b hj hk hjk hb => (by cases hb), rfl, fun k hk j hj => (by cases hj)⟩
            · rw [hw12]; exact range_new w11 [.slice none 0 0, .slice none 0 0, .slice none 0 0] 73
            · rw [hw12]; exact there_new w11 #[.slice none 0 0, .slice none 0 0, .slice none 0 0] 73 3 rfl
          have P0 := Lib.hid P0
          have b912 : Below w9.heap.size w9 w12 := by
            rw [hw12]
            exact (I10.out.2.1.trans (I11.out.2.1.mono (by have := I10.out.2.2; omega))).alloc (by have := I10.out.2.2; have := I11.out.2.2; omega) _
          have AB := Lib.hid P0.out.ab
          have I12 := Lib.hid (show n = 0 ∨ ∃ g, p = some ⟨g, 0, none⟩ ∧ g < w9.heap.size ∧ ∀ k, k < n → w12.rangeAt g (k * 23) (T k).cells from by
            rcases I9.out with h | ⟨g, hp, hg, hr⟩
            · exact .inl h
            · exact .inr ⟨g, hp, hg, fun k hk => range_below (hr k hk) b912 hg⟩)
          have Z12 := Lib.hid (show nt = 0 ∨ ∃ b o, B = some ⟨b, o, none⟩ ∧ b < w9.heap.size ∧ ∀ j, j < nt → w12.cell? ⟨b, o + j, none⟩ = some (.int .i64 (z j)) ∧ -9223372036854775808 ≤ z j ∧ z j ≤ 9223372036854775807 from by
            rcases HZ.out w9 B9.out with h | ⟨b, o, hB, hb, hc⟩
            · exact .inl h
            · exact .inr ⟨b, o, hB, hb, fun j hj => ⟨(b912.cell (p := ⟨b, o + j, none⟩) hb).trans (hc j hj).1, (hc j hj).2⟩⟩)
          have R12 := Lib.hid (show w12.rangeAt p8 0 (TO.cells n ⟨a, b, q0, q1, q2, q3⟩) ∧ p8 < w9.heap.size from ⟨range_below R9.out.1 b912 R9.out.2, R9.out.2⟩)
          have B12 := Lib.hid (B9.out.trans (b912.mono B9.out.size))
          have BD := Lib.hid (show w9.heap.size ≤ w10.heap.size ∧ w10.heap.size ≤ w11.heap.size ∧ w9.heap.size < w12.heap.size from ⟨by have := I10.out.2.2; omega, by have := I11.out.2.2; omega, P0.out.ab.1⟩)
          have BZ := Lib.hid B9.out.size
          show Code.wp _ _ _ _ (w11.alloc (.cells #[.slice none 0 0, .slice none 0 0, .slice none 0 0] 73))
          rw [← hw12]
          clear hw12 b912 I10 I11 I9 R9 B9
          generalize w9.heap.size = a3 at *
          generalize w10.heap.size = a4 at *
          generalize w11.heap.size = gp at *
          generalize w12.heap.size = base at *
          go_wp2_with fail
          go_loopw [16, 17, 18] (fun ii _ _ wx => ∃ (i : Nat) (l1 l2 : List Nat) (vs : Nat → Value) (xs : Nat → List Nat), ii = .int .i64 (i : Int) ∧ i ≤ n ∧ Hid (PS3 w12 wx a3 a4 gp base n T i i i l1 l2 vs xs)) (fun ii _ _ _ => n - (intOf ii).toNat)
          case atStart => exact ⟨0, [], [], _, _, by go_num, Nat.zero_le _, P0⟩
          case round =>
            obtain ⟨i, l1, l2, vs, xs, rfl, hin, hP⟩ := hrel
            clear P0
            by_cases hlt : i < n
            · have hii : (i : Int) < (n : Int) := by omega
              have di : decide ((i : Int) < (n : Int)) = true := decide_eq_true hii
              rcases I12.out with h0 | ⟨g, hp, hg, hr⟩
              · exact absurd h0 (by omega)
              subst hp
              have nex : ∀ q, q < a3 → ¬ (q = a3 ∨ q = a4 ∨ q = gp) := fun q hq h => by have := BD.out; omega
              have NEX := Lib.hid nex
              have RG := Lib.hid (show ∀ wx, Keep base (fun k => k = a3 ∨ k = a4 ∨ k = gp) w12 wx → wx.rangeAt g (i * 23) (T i).cells from fun wx hk => range_keep (hr i hlt) hk (by have := BD.out.2.2; omega) (nex g hg))
              have RI := Lib.hid (RG.out wr hP.out.kp)
              have SZ := Lib.hid (sz60 (OK.out i hlt))
              have CA := Lib.hid (c20 wr (T i) (OK.out i hlt))
              have hg3 : g < base := by have := BD.out.2.2; omega
              clear hr nex
              go_upto_region 28 with fail
              go_wp2_with (refine wpList_load_mid rfl 60 (.tmp 108) rfl g (i * 23) rfl (T i).cells _ RI.out Try.underlying60 rfl SZ.out ?_)
              go_at_call 20
              refine CA.out.mono fun e w4 ⟨⟨r, he, hu, hpl⟩, hb4⟩ => ?_
              subst he
              have hr : RV r (areaP (T i)) := ⟨hu, hpl⟩
              have AN := area_not (T i)
              have P1 := Lib.hid (hP.out.below hb4)
              have HR1 := Lib.hid hr
              have lt0 := RV.lt hr RV_zero
              rw [AN.1] at lt0
              have eq0 := RV.eq_ hr RV_zero
              clear hu hpl hb4 hP RI CA
              cases hz : feqP (areaP (T i)) 0
              · rw [hz] at eq0
                clear hz AN hr
                go_upto_region 31 with fail
                go_wp2_with fail
                go_at_call 21
                refine (c37 a3 _ r w4 HR1.out.1 P1.out.c3 (by have := P1.out.hb; have := AB.out; omega)).mono ?_
                rintro e w5 ⟨rfl, hA, hO⟩
                have P2 := Lib.hid (P1.out.add3 hA hO HR1.out)
                have co := ITM.co (OK.out i hlt).m (RG.out w5 P2.out.kp)
                have hM := fun w => run_fop (P := Try.prog) .mul rfl 31 r (T i).o w
                have HS := Lib.hid (fun v => RV.fop .mul HR1.out (RV.self (OK.out i hlt).o) v)
                clear hA hO P1
                go_wp2_with fail
                go_at_call 21
                have P3 := Lib.hid (P2.out.below (show Below w5.heap.size w5 (w5.drewN (fopN .mul r (T i).o)) from below_drewN (Below.refl _ _)))
                refine (c37 a4 _ _ _ (HS.out _).1 P3.out.c4 (by have := P3.out.hb; have := AB.out; omega)).mono ?_
                rintro e w6 ⟨rfl, hA, hO⟩
                have P4 := Lib.hid (P3.out.add4 hA hO (HS.out _))
                clear hA hO P2 P3 co hM HS HR1
                by_cases hnt : i < nt
                · have hti : (i : Int) < (nt : Int) := by omega
                  have dti : decide ((i : Int) < (nt : Int)) = true := decide_eq_true hti
                  rcases Z12.out with h0 | ⟨bt, ot, hB, hbt, hz⟩
                  · exact absurd h0 (by omega)
                  subst hB
                  have zc : w6.cell? ⟨bt, ot + i, none⟩ = some (.int .i64 (z i)) := (P4.out.kp.cell (p := ⟨bt, ot + i, none⟩) (by have := BD.out.2.2; show bt < base; omega) (NEX.out bt hbt)).trans (hz i hnt).1
                  have CP := Lib.hid (pick14 w6 (z i) 3 (hz i hnt).2 ⟨by decide, by decide⟩)
                  clear hz
                  go_upto_region 35 with fail
                  go_wp2_with fail
                  go_at_call 14
                  refine CP.out.mono ?_
                  rintro e w7 ⟨⟨q, rfl, hq0, hq3⟩, rfl⟩
                  obtain ⟨k, rfl⟩ : ∃ k : Nat, q = (k : Int) := ⟨q.toNat, by omega⟩
                  have hk : k < 3 := by omega
                  clear zc CP
                  have OW := Lib.hid (P4.out.ow k hk)
                  obtain ⟨pk, ck, ev, cv, -, -⟩ := P4.out.part OK.out hk
                  have ow := OW.out
                  rw [ev] at ow
                  go_upto_region 36 with fail
                  refine sreg36 w6 g n c' gp i k base (xs k).length (.slice pk (xs k).length ck) _ (T i) _ _ _ _ _ _ _ _ _ _ _ _ _ _ _ _ _ _ _ _ _ _ _ _ _ _ _ _ _ _ _ _ _ _ _ _ _ _ _ _ _ _ _ _ _ _ _ _ _ _ _ _ _ _ _ _ _ _ _ _ _ _ _ _ _ _ _ _ _ _ _ _ _ _ _ _ _ _ _ _ _ _ _ _ _ _ _ _ _ _ _ _ _ _ _ _ _ _ _ _ _ _ _ _ _ _ _ _ _ _ _ _ _ _ _ _ _ _ _ _ _ _ _ _ _ _ _ _ _ _ _ _ _ _ _ _ _ _ _ _ _ _ _ _ _ _ _ _ _ _ _ _ _ _ _ _ _ _ _ _ _ _ _ _ _ _ _ _ _ _ _ _ _ _ _ _ _ _ _ _ (RG.out w6 P4.out.kp) (by have := P4.out.hb; omega) hlt hn (OK.out i hlt) hk cv (by have := (P4.out.th k (by omega)).2; rwa [Nat.zero_add] at this) (P4.out.ab.2.2.1) ow P4.out.hb (by have := P4.out.sm; have := P4.out.len; have : (xs k).length ≤ i := (by rcases (show k = 0 ∨ k = 1 ∨ k = 2 by omega) with e | e | e <;> rw [e] <;> omega); omega) (fun _ _ _ _ _ h => h) (fun v143 v144 v145 v146 v147 v148 v149 v150 v152 v153 v3 w8 w9 g' hb hown hgrow hbl hg' => ?_)
                  have P5 := Lib.hid (P4.out.push hk hlt hb hown (by rw [ev]; exact hgrow) (by rw [ev]; exact hbl))
                  clear hb hown hgrow hbl hg' ow cv OW P4 ev
                  go_wp2_with fail
                  go_roundw
                  case rel => exact ⟨i + 1, _, _, _, _, by go_num, by omega, P5⟩
                  case measure => simp [intOf]; omega
                · have dti : decide ((i : Int) < (nt : Int)) = false := decide_eq_false (by omega)
                  have hk : (0 : Nat) < 3 := by decide
                  have OW := Lib.hid (P4.out.ow 0 hk)
                  obtain ⟨pk, ck, ev, cv, -, -⟩ := P4.out.part OK.out hk
                  have ow := OW.out
                  rw [ev] at ow
                  go_upto_region 36 with fail
                  refine sreg36 w6 g n c' gp i 0 base (xs 0).length (.slice pk (xs 0).length ck) _ (T i) _ _ _ _ _ _ _ _ _ _ _ _ _ _ _ _ _ _ _ _ _ _ _ _ _ _ _ _ _ _ _ _ _ _ _ _ _ _ _ _ _ _ _ _ _ _ _ _ _ _ _ _ _ _ _ _ _ _ _ _ _ _ _ _ _ _ _ _ _ _ _ _ _ _ _ _ _ _ _ _ _ _ _ _ _ _ _ _ _ _ _ _ _ _ _ _ _ _ _ _ _ _ _ _ _ _ _ _ _ _ _ _ _ _ _ _ _ _ _ _ _ _ _ _ _ _ _ _ _ _ _ _ _ _ _ _ _ _ _ _ _ _ _ _ _ _ _ _ _ _ _ _ _ _ _ _ _ _ _ _ _ _ _ _ _ _ _ _ _ _ _ _ _ _ _ _ _ _ _ _ (RG.out w6 P4.out.kp) (by have := P4.out.hb; omega) hlt hn (OK.out i hlt) hk cv (by have := (P4.out.th 0 (by omega)).2; rwa [Nat.zero_add] at this) (P4.out.ab.2.2.1) ow P4.out.hb (by have := P4.out.sm; have := P4.out.len; have : (xs 0).length ≤ i := (by rcases (show 0 = 0 ∨ 0 = 1 ∨ 0 = 2 by omega) with e | e | e <;> rw [e] <;> omega); omega) (fun _ _ _ _ _ h => h) (fun v143 v144 v145 v146 v147 v148 v149 v150 v152 v153 v3 w8 w9 g' hb hown hgrow hbl hg' => ?_)
                  have P5 := Lib.hid (P4.out.push hk hlt hb hown (by rw [ev]; exact hgrow) (by rw [ev]; exact hbl))
                  clear hb hown hgrow hbl hg' ow cv OW P4 ev
                  go_wp2_with fail
                  go_roundw
                  case rel => exact ⟨i + 1, _, _, _, _, by go_num, by omega, P5⟩
                  case measure => simp [intOf]; omega
              · rw [hz] at eq0
                have e0 : r = 0 := word_is (by rw [AN.2 hz] at hr; exact hr) 0 U_zero (by decide) (by decide)
                have hq : ∀ w, (binOp .quo 31 (.float .f64 4607182418800017408) (.float .f64 r)).run Try.prog w = .ok (.float .f64 9218868437227405312) w := fun w => by rw [e0]; exact RV_quoz w
                have il : (FloatKind.f64.format.order 9218868437227405312 0 == some Ordering.lt) = false := by decide
                clear hz AN hr e0
                go_upto_region 31 with fail
                go_wp2_with fail
                go_at_call 21
                refine (c37 a3 _ r w4 HR1.out.1 P1.out.c3 (by have := P1.out.hb; have := AB.out; omega)).mono ?_
                rintro e w5 ⟨rfl, hA, hO⟩
                have P2 := Lib.hid (P1.out.add3 hA hO HR1.out)
                have co := ITM.co (OK.out i hlt).m (RG.out w5 P2.out.kp)
                have hM := fun w => run_fop (P := Try.prog) .mul rfl 31 r (T i).o w
                have HS := Lib.hid (fun v => RV.fop .mul HR1.out (RV.self (OK.out i hlt).o) v)
                clear hA hO P1
                go_wp2_with fail
                go_at_call 21
                have P3 := Lib.hid (P2.out.below (show Below w5.heap.size w5 (w5.drewN (fopN .mul r (T i).o)) from below_drewN (Below.refl _ _)))
                refine (c37 a4 _ _ _ (HS.out _).1 P3.out.c4 (by have := P3.out.hb; have := AB.out; omega)).mono ?_
                rintro e w6 ⟨rfl, hA, hO⟩
                have P4 := Lib.hid (P3.out.add4 hA hO (HS.out _))
                clear hA hO P2 P3 co hM HS HR1
                by_cases hnt : i < nt
                · have hti : (i : Int) < (nt : Int) := by omega
                  have dti : decide ((i : Int) < (nt : Int)) = true := decide_eq_true hti
                  rcases Z12.out with h0 | ⟨bt, ot, hB, hbt, hz⟩
                  · exact absurd h0 (by omega)
                  subst hB
                  have zc : w6.cell? ⟨bt, ot + i, none⟩ = some (.int .i64 (z i)) := (P4.out.kp.cell (p := ⟨bt, ot + i, none⟩) (by have := BD.out.2.2; show bt < base; omega) (NEX.out bt hbt)).trans (hz i hnt).1
                  have CP := Lib.hid (pick14 w6 (z i) 3 (hz i hnt).2 ⟨by decide, by decide⟩)
                  clear hz
                  go_upto_region 35 with fail
                  go_wp2_with fail
                  go_at_call 14
                  refine CP.out.mono ?_
                  rintro e w7 ⟨⟨q, rfl, hq0, hq3⟩, rfl⟩
                  obtain ⟨k, rfl⟩ : ∃ k : Nat, q = (k : Int) := ⟨q.toNat, by omega⟩
                  have hk : k < 3 := by omega
                  clear zc CP
                  have OW := Lib.hid (P4.out.ow k hk)
                  obtain ⟨pk, ck, ev, cv, -, -⟩ := P4.out.part OK.out hk
                  have ow := OW.out
                  rw [ev] at ow
                  go_upto_region 36 with fail
                  refine sreg36 w6 g n c' gp i k base (xs k).length (.slice pk (xs k).length ck) _ (T i) _ _ _ _ _ _ _ _ _ _ _ _ _ _ _ _ _ _ _ _ _ _ _ _ _ _ _ _ _ _ _ _ _ _ _ _ _ _ _ _ _ _ _ _ _ _ _ _ _ _ _ _ _ _ _ _ _ _ _ _ _ _ _ _ _ _ _ _ _ _ _ _ _ _ _ _ _ _ _ _ _ _ _ _ _ _ _ _ _ _ _ _ _ _ _ _ _ _ _ _ _ _ _ _ _ _ _ _ _ _ _ _ _ _ _ _ _ _ _ _ _ _ _ _ _ _ _ _ _ _ _ _ _ _ _ _ _ _ _ _ _ _ _ _ _ _ _ _ _ _ _ _ _ _ _ _ _ _ _ _ _ _ _ _ _ _ _ _ _ _ _ _ _ _ _ _ _ _ _ _ (RG.out w6 P4.out.kp) (by have := P4.out.hb; omega) hlt hn (OK.out i hlt) hk cv (by have := (P4.out.th k (by omega)).2; rwa [Nat.zero_add] at this) (P4.out.ab.2.2.1) ow P4.out.hb (by have := P4.out.sm; have := P4.out.len; have : (xs k).length ≤ i := (by rcases (show k = 0 ∨ k = 1 ∨ k = 2 by omega) with e | e | e <;> rw [e] <;> omega); omega) (fun _ _ _ _ _ h => h) (fun v143 v144 v145 v146 v147 v148 v149 v150 v152 v153 v3 w8 w9 g' hb hown hgrow hbl hg' => ?_)
                  have P5 := Lib.hid (P4.out.push hk hlt hb hown (by rw [ev]; exact hgrow) (by rw [ev]; exact hbl))
                  clear hb hown hgrow hbl hg' ow cv OW P4 ev
                  go_wp2_with fail
                  go_roundw
                  case rel => exact ⟨i + 1, _, _, _, _, by go_num, by omega, P5⟩
                  case measure => simp [intOf]; omega
                · have dti : decide ((i : Int) < (nt : Int)) = false := decide_eq_false (by omega)
                  have hk : (0 : Nat) < 3 := by decide
                  have OW := Lib.hid (P4.out.ow 0 hk)
                  obtain ⟨pk, ck, ev, cv, -, -⟩ := P4.out.part OK.out hk
                  have ow := OW.out
                  rw [ev] at ow
                  go_upto_region 36 with fail
                  refine sreg36 w6 g n c' gp i 0 base (xs 0).length (.slice pk (xs 0).length ck) _ (T i) _ _ _ _ _ _ _ _ _ _ _ _ _ _ _ _ _ _ _ _ _ _ _ _ _ _ _ _ _ _ _ _ _ _ _ _ _ _ _ _ _ _ _ _ _ _ _ _ _ _ _ _ _ _ _ _ _ _ _ _ _ _ _ _ _ _ _ _ _ _ _ _ _ _ _ _ _ _ _ _ _ _ _ _ _ _ _ _ _ _ _ _ _ _ _ _ _ _ _ _ _ _ _ _ _ _ _ _ _ _ _ _ _ _ _ _ _ _ _ _ _ _ _ _ _ _ _ _ _ _ _ _ _ _ _ _ _ _ _ _ _ _ _ _ _ _ _ _ _ _ _ _ _ _ _ _ _ _ _ _ _ _ _ _ _ _ _ _ _ _ _ _ _ _ _ _ _ _ _ _ (RG.out w6 P4.out.kp) (by have := P4.out.hb; omega) hlt hn (OK.out i hlt) hk cv (by have := (P4.out.th 0 (by omega)).2; rwa [Nat.zero_add] at this) (P4.out.ab.2.2.1) ow P4.out.hb (by have := P4.out.sm; have := P4.out.len; have : (xs 0).length ≤ i := (by rcases (show 0 = 0 ∨ 0 = 1 ∨ 0 = 2 by omega) with e | e | e <;> rw [e] <;> omega); omega) (fun _ _ _ _ _ h => h) (fun v143 v144 v145 v146 v147 v148 v149 v150 v152 v153 v3 w8 w9 g' hb hown hgrow hbl hg' => ?_)
                  have P5 := Lib.hid (P4.out.push hk hlt hb hown (by rw [ev]; exact hgrow) (by rw [ev]; exact hbl))
                  clear hb hown hgrow hbl hg' ow cv OW P4 ev
                  go_wp2_with fail
                  go_roundw
                  case rel => exact ⟨i + 1, _, _, _, _, by go_num, by omega, P5⟩
                  case measure => simp [intOf]; omega
            · have e : n = i := by omega
              subst e
              have di : decide ((n : Int) < (n : Int)) = false := decide_eq_false (by omega)
              generalize wr = w13 at *
              have K0 := Lib.hid (Below.refl w13.heap.size w13)
              have NEX := Lib.hid (show ∀ q, q < a3 → ¬ (q = a3 ∨ q = a4 ∨ q = gp) from fun q hq h => by have := BD.out; omega)
              have SX := Lib.hid (show ∀ k, k < 3 → sx xs k + (xs k).length ≤ n from fun k hk => by
                have := hP.out.sm
                rcases (show k = 0 ∨ k = 1 ∨ k = 2 by omega) with rfl | rfl | rfl <;> simp only [sx] <;> omega)
              clear I12 Z12 HZ
              go_upto_region 37 with fail
              go_wp2_with fail
              go_loopw [19, 20, 21] (fun nn kk _ wx => ∃ k s : Nat, kk = .int .i64 (k : Int) ∧ nn = .int .i64 (s : Int) ∧ s = sx xs k ∧ k ≤ 3 ∧ Hid (Below w13.heap.size w13 wx)) (fun _ kk _ _ => 3 - (intOf kk).toNat)
              case atStart => exact ⟨0, 0, by go_num, by go_num, rfl, by omega, K0⟩
              case round =>
                obtain ⟨k, s, rfl, rfl, hs, hk3, hK⟩ := hrel
                clear K0
                by_cases hk : k < 3
                · have hkk : (k : Int) < 3 := by omega
                  have dk : decide ((k : Int) < 3) = true := decide_eq_true hkk
                  have P5 := Lib.hid (hP.out.below hK.out)
                  obtain ⟨pk, ck, ev, cv, it, ok⟩ := P5.out.part OK.out hk
                  have hsn : s + (xs k).length ≤ n := by rw [hs]; exact SX.out k hk
                  have HSX := Lib.hid hs
                  have CT := Lib.hid (total_any wr pk (xs k).length ck _ ok (by omega) it)
                  clear ev it ok hs
                  generalize hlen : (xs k).length = len at *
                  have HLN := Lib.hid hlen
                  clear hlen
                  go_upto_region 41 with fail
                  go_wp2_with fail
                  go_at_call 16
                  refine CT.out.mono fun e w14 ⟨⟨a', b', r0, r1, r2, r3, he, _⟩, hb⟩ => ?_
                  subst he
                  have T4 := Lib.hid (there_new w14 #[.int .i64 0, .float .f64 0, .float .f64 0, .float .f64 0, .float .f64 0, .float .f64 0, .float .f64 0] 67 7 rfl)
                  have N4 := Lib.hid (new_row w14 #[.int .i64 0, .float .f64 0, .float .f64 0, .float .f64 0, .float .f64 0, .float .f64 0, .float .f64 0] 67 (TO.cells len ⟨a', b', r0, r1, r2, r3⟩) rfl)
                  have K1 := Lib.hid (hK.out.trans (hb.mono hK.out.size))
                  clear hb CT cv hK P5
                  go_upto_region 42 with (refine wpList_store_mid rfl 67 (.tmp 21) (.tmp 161) rfl w14.heap.size 0 (TO.cells len ⟨a', b', r0, r1, r2, r3⟩).toArray rfl rfl T4.out size67 (TO.all _ _) ?_)
                  show Code.wp _ _ _ _ ((w14.alloc (.cells #[.int .i64 0, .float .f64 0, .float .f64 0, .float .f64 0, .float .f64 0, .float .f64 0, .float .f64 0] 67)).setCells w14.heap.size 0 (TO.cells len ⟨a', b', r0, r1, r2, r3⟩))
                  obtain ⟨b8, r8, -, s8⟩ := N4.out
                  have d0 := r8 0 _ rfl
                  simp only [Nat.zero_add] at d0
                  have K2 := Lib.hid (K1.out.trans (b8.mono K1.out.size))
                  clear T4 N4 b8 r8 s8 K1
                  generalize (w14.alloc (.cells #[.int .i64 0, .float .f64 0, .float .f64 0, .float .f64 0, .float .f64 0, .float .f64 0, .float .f64 0] 67)).setCells w14.heap.size 0 (TO.cells len ⟨a', b', r0, r1, r2, r3⟩) = w15 at *
                  generalize w14.heap.size = p21 at *
                  go_wp2_with fail
                  go_roundw
                  case rel => exact ⟨k + 1, s + len, by go_num, by go_num, by rw [HSX.out, ← HLN.out]; rfl, by omega, K2⟩
                  case measure => simp [intOf]; omega
                · have e : k = 3 := by omega
                  subst e
                  have es : s = n := by rw [hs]; have := hP.out.sm; simp only [sx]; omega
                  subst es
                  have P6 := hP.out.below hK.out
                  have lens := P6.len
                  have hbz := BZ.out
                  have hbd := BD.out
                  have hab := P6.ab
                  have r8 := range_keep R12.out.1 P6.kp (by have := R12.out.2; omega) (NEX.out p8 R12.out.2)
                  have BF := Lib.hid (B0.out.trans ((B12.out.trans ((P6.kp.below W0.heap.size (by omega) (fun k hk h => by omega)).mono (Nat.le_refl _))).mono B0.out.size))
                  go_upto_region 43 with fail
                  refine sreg43 wr s p8 a3 a4 a b q0 q1 q2 q3 (accS l1) (accS l2) _ _ _ _ _ _ _ _ _ _ _ _ _ _ _ _ _ _ _ _ _ _ _ _ _ _ _ _ _ _ _ _ _ _ _ _ _ _ _ _ _ _ _ _ _ _ _ _ _ _ _ _ _ _ _ _ _ _ _ _ _ _ _ _ _ _ _ _ _ _ _ _ _ _ _ _ _ _ _ _ _ _ _ _ _ _ _ _ _ _ _ _ _ _ _ _ _ _ _ _ _ _ _ _ _ _ _ _ _ _ _ _ _ _ _ _ _ _ _ _ _ _ _ _ _ _ _ _ _ _ _ _ _ _ _ _ _ _ _ _ _ _ _ _ _ _ _ _ _ _ _ _ _ _ _ _ _ _ _ _ _ _ _ _ _ _ _ _ _ _ _ _ _ _ _ _ _ _ _ _ r8 (by have := P6.hb; have := R12.out.2; omega) P6.c3 P6.c4 (by have := P6.hb; omega) (by have := P6.hb; omega) hab.2.2.2.1 (acc_small l1 (by omega)) (acc_small l2 (by omega)) (by rw [accS_places P6.u1, P6.p1]; exact HR.out.a) (by rw [accS_places P6.u2, P6.p2]; exact HR.out.b) (fun v166 v167 v168 v169 v170 v171 v172 v173 v174 v175 v176 v177 v178 v179 v180 v181 v182 v183 w16 hb => ?_)
                  have BG := Lib.hid (BF.out.trans (hb.mono BF.out.size))
                  clear hb r8 P6 lens hbz hbd hab BF
                  go_wp2
                  go_ret
                  exact ⟨rfl, BG.out⟩
end Go.Proofs.Ytedkbjimofiphaa
