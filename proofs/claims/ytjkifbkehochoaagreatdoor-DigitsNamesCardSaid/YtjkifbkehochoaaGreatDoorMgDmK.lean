/- digits.Print: what it prints, in plain words; contracts of what it calls. digits.Print: the walk. digits.Print of any number. galleyref03.less. galleyref03's reads. galleyref03.ratio. galleyref03.place; value at any point. -/
import Derived.Test.YtjkifbkehochoaaGreatDoorMgDmI
import Derived.Test.YtjkifbkehochoaaGreatDoorSi
import Derived.BigQuiet
import Derived.Test.YtjkifbkehochoaaGreatDoorMgDhK
import Derived.Test.YtjkifbkehochoaaGreatDoorQV
import Derived.Test.YtjkifbkehochoaaGreatDoorMgDjB
import Derived.Test.YtjkifbkehochoaaGreatDoorMgDhF
namespace Go.Proofs.YtjkifbkehochoaaGreatDoor
open Go.RowKit Fl
def printD (l : List Nat) (p : Int) : List Nat :=
  if (l.length : Int) ≤ p ∧ p ≤ 21 then l ++ List.replicate (p - l.length).toNat 48
  else if 1 ≤ p ∧ p ≤ 21 then l.take p.toNat ++ [46] ++ l.drop p.toNat
  else if -5 ≤ p ∧ p ≤ 0 then [48, 46] ++ List.replicate (-p).toNat 48 ++ l
  else l.take 1 ++ (if 1 < l.length then 46 :: l.drop 1 else []) ++ (if 1 ≤ p then [101, 43] ++ dgs (p - 1).toNat else [101, 45] ++ dgs (1 - p).toNat)
def bodyF (b : Nat) : List Nat := if b = 0 then [48] else if b = INF then [73, 110, 102, 105, 110, 105, 116, 121] else printD (shD b) (shP b)
def printF (x : Nat) : List Nat := if INF < rg x then [78, 97, 78] else (if sg x = true then [45] else []) ++ bodyF (rg x)
theorem sh_range {b : Nat} (h0 : 0 < b) (h1 : b < INF) : 1 ≤ (shD b).length ∧ (shD b).length ≤ 18 ∧ -400 ≤ shP b ∧ shP b ≤ 400 := by
  have v0 : 0 < V b := by have := V_lt h0; omega
  have vI : V b ≤ V INF := V_le (Nat.le_of_lt h1)
  have hp := place_is v0 vI
  obtain ⟨r1, r2⟩ := hp.range v0 vI
  obtain ⟨d, m, e, m1, m2, hs, -⟩ := srch_ends h0 h1 hp 17 1 (by omega) (by omega) (by omega)
  have hq := q_range hp (n := m) m1
  have h17 := e17s m2
  have hp0 := Nat.pow_pos (n := m - 1) (show 0 < 10 by decide)
  have hd : 0 < d ∧ d < 1000000000000000000 := by
    rcases (sel_read hs).2 with c | c <;> omega
  have nd : Lib.nDigits d ≤ 18 := nd_le (by have : (10 : Nat) ^ 18 = 1000000000000000000 := by decide
                                            omega) (by decide)
  have nd1 : 0 < Lib.nDigits d := by rw [← dgs_len]; exact List.length_pos_iff.2 (dgs_ne d)
  have eS : shS b = (d, m) := e
  have e1 : shD b = trimD (dgs d) := by unfold shD; rw [if_neg (by omega), eS]
  have e2 : shP b = placeF (V b) + Lib.nDigits d - m := by unfold shP; rw [if_neg (by omega), eS]
  have l1 : 0 < (trimD (dgs d)).length := List.length_pos_iff.2 (trim_ne hd.1)
  have l2 : (trimD (dgs d)).length ≤ 18 := by
    unfold trimD
    rw [List.length_take, dgs_len]; omega
  rw [e1, e2]
  omega
theorem cls4 {x : Nat} (hx : U x) : (INF < rg x ∧ pCls x = 4 ∧ pNeg x = false) ∨ (rg x = INF ∧ pCls x = 3 ∧ pNeg x = sg x) ∨ (rg x = 0 ∧ pCls x = 0 ∧ pNeg x = sg x) ∨ (0 < rg x ∧ rg x < INF ∧ (pCls x = 1 ∨ pCls x = 2) ∧ pNeg x = sg x) := by
  unfold pCls pNeg eM fM rg INF
  have : x < 18446744073709551616 := hx.lt
  by_cases h : x / 4503599627370496 % 2048 = 2047
  · by_cases h2 : x % 4503599627370496 = 0
    · right; left
      rw [if_pos h, if_pos h2, if_neg (by omega)]
      exact ⟨by omega, rfl, rfl⟩
    · left
      rw [if_pos h, if_neg h2, if_pos ⟨h, h2⟩]
      exact ⟨by omega, rfl, rfl⟩
  · have hn : (if x / 4503599627370496 % 2048 = 2047 ∧ x % 4503599627370496 ≠ 0 then false else sg x) = sg x := if_neg (fun c => h c.1)
    by_cases h3 : x / 4503599627370496 % 2048 = 0
    · by_cases h2 : x % 4503599627370496 = 0
      · right; right; left
        rw [if_neg h, if_pos h3, if_pos h2]
        exact ⟨by omega, rfl, hn⟩
      · right; right; right
        rw [if_neg h, if_pos h3, if_neg h2]
        exact ⟨by omega, by omega, .inl rfl, hn⟩
    · right; right; right
      rw [if_neg h, if_neg h3]
      exact ⟨by omega, by omega, .inr rfl, hn⟩
theorem dgs_short {n : Nat} (h : n ≤ 1000) : (dgs n).length ≤ 4 := by
  rw [dgs_len]
  exact nd_le (by have : (10 : Nat) ^ 4 = 10000 := by decide
                  omega) (by decide)
theorem printD_len {l : List Nat} {p : Int} (h : l.length ≤ 18) (h1 : -400 ≤ p) (h2 : p ≤ 400) : (printD l p).length ≤ 60 := by
  have a := dgs_short (n := (p - 1).toNat) (by omega)
  have b := dgs_short (n := (1 - p).toNat) (by omega)
  unfold printD
  split
  · simp only [List.length_append, List.length_replicate]; omega
  · split
    · simp only [List.length_append, List.length_take, List.length_drop, List.length_cons, List.length_nil]; omega
    · split
      · simp only [List.length_append, List.length_replicate, List.length_cons, List.length_nil]; omega
      · split <;> split <;> simp only [List.length_append, List.length_take, List.length_drop, List.length_cons, List.length_nil] <;> omega
theorem bodyF_len {b : Nat} (h : b ≤ INF) : (bodyF b).length ≤ 60 := by
  unfold bodyF
  split
  · simp
  · split
    · simp
    · rename_i h0 h1
      obtain ⟨_, l2, p1, p2⟩ := sh_range (b := b) (by omega) (by omega)
      exact printD_len l2 p1 p2
theorem cRep (k : Int) (h0 : 0 ≤ k) (h1 : k ≤ 1000) (w : World) : Calls Tryz.prog 30 #[.string ⟨#[48]⟩, .int .i64 k] w fun e w' => (∃ r : ByteArray, e = .returned (.string r) ∧ bl r = List.replicate k.toNat 48 ∧ (r.size : Int) = k) ∧ Below w.heap.size w w' := by
  obtain ⟨n, rfl⟩ : ∃ n : Nat, k = n := ⟨k.toNat, by omega⟩
  refine (cRepeat ⟨#[48]⟩ n w (by omega) (by show 1 * n ≤ _; omega)).mono ?_
  rintro e w' ⟨rfl, hb⟩
  have hr : ∀ m : Nat, Lib.repeatL [(48 : UInt8)] m = List.replicate m 48 := fun m => by
    induction m with
    | zero => rfl
    | succ m ih => simp [Lib.repeatL] at ih ⊢ <;> simp [List.replicate_succ, ih]
  have e1 : bl ⟨(Lib.repeatL (⟨#[48]⟩ : ByteArray).data.toList n).toArray⟩ = List.replicate n 48 := by
    show bl ⟨(Lib.repeatL [(48 : UInt8)] n).toArray⟩ = _
    rw [hr]
    show (List.replicate n (48 : UInt8)).map UInt8.toNat = _
    rw [List.map_replicate]; rfl
  exact ⟨⟨_, rfl, by rw [e1, Int.toNat_natCast], by rw [← bl_len, e1, List.length_replicate]⟩, hb⟩
theorem cIt (k : Int) (h0 : 0 ≤ k) (h1 : k ≤ 1000) (w : World) (ht : PowTab w) : Calls Tryz.prog 31 #[.int .i64 k] w fun e w' => (∃ r : ByteArray, e = .returned (.string r) ∧ bl r = dgs k.toNat ∧ (r.size : Int) ≤ 4) ∧ Below w.heap.size w w' := by
  obtain ⟨n, rfl⟩ : ∃ n : Nat, k = n := ⟨k.toNat, by omega⟩
  refine (cItoaBig n (by omega) (by omega) w ht).mono ?_
  rintro e w' ⟨rfl, j, os, rfl⟩
  rw [Lib.itoa_nonneg]
  have h2 := dgs_short (n := n) (by omega)
  exact ⟨⟨_, rfl, by rw [bl_dec, Int.toNat_natCast], by rw [← bl_len, bl_dec]; omega⟩, Lib.below_grow w.heap.size w (Nat.le_refl _) j os⟩
end Go.Proofs.YtjkifbkehochoaaGreatDoor

namespace Go.Proofs.YtjkifbkehochoaaGreatDoor
open Go.RowKit Fl
theorem split4 (x : Nat) (hx : U x) : ∀ w, Calls Tryz.prog 29 #[.float .f64 x] w fun e w' => (∃ (c d : Int), e = .returned (.agg #[.bool (pNeg x), .int .i64 (pCls x), .int .u64 c, .int .i64 d])) ∧ Below w.heap.size w w' := fun w => (c30 x w hx).mono (by rintro e w' ⟨rfl, hb⟩; exact ⟨⟨_, _, rfl⟩, hb⟩)
theorem sl_to (z : ByteArray) (p : Int) (h0 : 0 ≤ p) (h1 : p ≤ (z.size : Int)) (W : World) : (Instr.sliceAt 9 (.string z) none (some (.int .i64 p)) none).run Tryz.prog W = .ok (.string (z.extract 0 p.toNat)) W := by
  simp [go_sem, Tryz.underlying9, h0, h1]
theorem sl_from (z : ByteArray) (p : Int) (h0 : 0 ≤ p) (h1 : p ≤ (z.size : Int)) (W : World) : (Instr.sliceAt 9 (.string z) (some (.int .i64 p)) none none).run Tryz.prog W = .ok (.string (z.extract p.toNat z.size)) W := by
  simp [go_sem, Tryz.underlying9, h0, h1]
theorem bl_to (z : ByteArray) (k : Nat) : bl (z.extract 0 k) = (bl z).take k := by rw [bl_extract, List.drop_zero]
theorem bl_from (z : ByteArray) (k : Nat) : bl (z.extract k z.size) = (bl z).drop k := by rw [bl_extract, ← bl_len, List.take_length]
theorem bl46 : bl ⟨#[46]⟩ = [46] := rfl
theorem blm : bl ⟨#[101, 45]⟩ = [101, 45] := rfl
theorem blp : bl ⟨#[101, 43]⟩ = [101, 43] := rfl
theorem d1 {l : List Nat} {p : Int} (h : (l.length : Int) ≤ p) (h2 : p ≤ 21) : printD l p = l ++ List.replicate (p - l.length).toNat 48 := by
  unfold printD; rw [if_pos ⟨h, h2⟩]
theorem d2 {l : List Nat} {p : Int} (h : ¬ (l.length : Int) ≤ p) (h1 : 1 ≤ p) (h2 : p ≤ 21) : printD l p = l.take p.toNat ++ [46] ++ l.drop p.toNat := by
  unfold printD; rw [if_neg (fun c => h c.1), if_pos ⟨h1, h2⟩]
theorem d3 {l : List Nat} {p : Int} (h : ¬ (l.length : Int) ≤ p) (h1 : -5 ≤ p) (h2 : p ≤ 0) : printD l p = [48, 46] ++ List.replicate (-p).toNat 48 ++ l := by
  unfold printD; rw [if_neg (fun c => h c.1), if_neg (by omega), if_pos ⟨h1, h2⟩]
theorem d4 {l : List Nat} {p : Int} (h : p < -5) : printD l p = l.take 1 ++ (if 1 < l.length then 46 :: l.drop 1 else []) ++ ([101, 45] ++ dgs (1 - p).toNat) := by
  unfold printD; rw [if_neg (by omega), if_neg (by omega), if_neg (by omega), if_neg (show ¬ 1 ≤ p by omega)]
theorem d5 {l : List Nat} {p : Int} (h : 21 < p) : printD l p = l.take 1 ++ (if 1 < l.length then 46 :: l.drop 1 else []) ++ ([101, 43] ++ dgs (p - 1).toNat) := by
  unfold printD; rw [if_neg (by omega), if_neg (by omega), if_neg (by omega), if_pos (show 1 ≤ p by omega)]
set_option maxRecDepth 100000 in
set_option maxHeartbeats 4000000 in
theorem lPrintFin (b : Nat) (w : World) (h0 : 0 < b) (h1 : b < INF) (ht : PowTab w) :
    Calls Tryz.prog 12 #[.float .f64 b] w fun e w' => (∃ z : ByteArray, e = .returned (.string z) ∧ bl z = printD (shD b) (shP b)) ∧ Below w.heap.size w w' := by
  have hr : rg b = b := Nat.mod_eq_of_lt (by unfold INF at h1; omega)
  have hs : sg b = false := decide_eq_false (by unfold INF at h1; omega)
  have ux : U b := by unfold U; unfold INF at h1; omega
  have CS := Lib.hid (split4 b ux)
  have CH := Lib.hid (fun w h => lShort b w ux h)
  have hc : (pCls b = 1 ∨ pCls b = 2) ∧ pNeg b = false := by
    rcases cls4 ux with h | h | h | h
    · omega
    · omega
    · omega
    · exact ⟨h.2.2.1, h.2.2.2.trans hs⟩
  rw [hr] at CH
  rw [hc.2] at CS
  obtain ⟨l1, l2, p1, p2⟩ := sh_range h0 h1
  obtain ⟨l, hl⟩ : ∃ l, l = shD b := ⟨_, rfl⟩
  rw [← hl] at CH l1 l2 ⊢
  generalize shP b = p at *
  have hc1 := hc.1
  generalize pCls b = k at *
  have g0 : (k == 0) = false := beq_eq_false_iff_ne.2 (by omega)
  have g3 : (k == 3) = false := beq_eq_false_iff_ne.2 (by omega)
  have g4 : (k == 4) = false := beq_eq_false_iff_ne.2 (by omega)
  have HT := Lib.hid ht
  clear hr hs ux hc hc1 hl h0 h1 ht
  go_enter Tryz.func12, Tryz.ntmps12
  go_upto_region 11 with (first
    | (go_at_call 29; refine (CS.out _).mono ?_; rintro e w1 ⟨⟨c, d, rfl⟩, hb⟩; have B1 := Lib.hid hb; clear hb)
    | (go_at_call 16; refine (CH.out _ (HT.out.below (B1.out.alloc B1.out.size _))).mono ?_; rintro e w2 ⟨⟨z, rfl, hz⟩, hb⟩; have B2 := Lib.hid ((B1.out.alloc B1.out.size _).trans (hb.mono (B1.out.alloc B1.out.size _).size)); have Z := Lib.hid hz; clear hb hz))
  have zs : (z.size : Int) = (l.length : Int) := by rw [← bl_len, Z.out]
  have z1 : (1 : Int) ≤ (z.size : Int) := by omega
  have z2 : (z.size : Int) ≤ 18 := by omega
  clear CS CH B1 g0 g3 g4 l1 l2
  by_cases q1 : (z.size : Int) ≤ p ∧ p ≤ 21
  · obtain ⟨q1, q2⟩ := q1
    have E := Lib.hid (d1 (l := l) (p := p) (by omega) q2)
    have CR := Lib.hid (cRep (p - (z.size : Int)) (by omega) (by omega))
    have ZS := Lib.hid zs
    clear zs
    go_wp2_with (go_at_call 30; refine (CR.out _).mono ?_; rintro e w3 ⟨⟨r, rfl, hr, rs⟩, hb⟩; have R := Lib.hid hr; have B3 := Lib.hid (B2.out.trans (hb.mono B2.out.size)); clear hb hr)
    go_ret
    exact ⟨⟨_, rfl, by rw [bl_append, E.out, R.out, Z.out, ZS.out]⟩, B3.out⟩
  · by_cases q2 : 1 ≤ p ∧ p ≤ 21
    · obtain ⟨q2, q3⟩ := q2
      have q4 : ¬ (z.size : Int) ≤ p := by omega
      have E := Lib.hid (d2 (l := l) (p := p) (by omega) q2 q3)
      have q5 : p ≤ (z.size : Int) := by omega
      have q6 : 0 ≤ p := by omega
      have s1 : (z.extract 0 p.toNat).size = p.toNat := by rw [ByteArray.size_extract]; omega
      have s2 : (z.extract p.toNat z.size).size = z.size - p.toNat := by rw [ByteArray.size_extract]; omega
      have B3 := B2
      have F1 := sl_to z p q6 q5
      have F2 := sl_from z p q6 q5
      clear q1 zs
      go_wp2_with fail
      go_quiet (fail)
      go_wp2_with fail
      go_ret
      exact ⟨⟨_, rfl, by rw [bl_append, bl_append, bl_to, bl_from, bl46, E.out, Z.out]⟩, BdN B3.out _⟩
    · by_cases q3 : -5 ≤ p ∧ p ≤ 0
      · obtain ⟨q3, q4⟩ := q3
        have q5 : ¬ (z.size : Int) ≤ p := by omega
        have q6 : ¬ (1 : Int) ≤ p := by omega
        have E := Lib.hid (d3 (l := l) (p := p) (by omega) q3 q4)
        have CR := Lib.hid (cRep (-p) (by omega) (by omega))
        clear q1 q2 zs
        go_wp2_with (go_at_call 30; refine (CR.out _).mono ?_; rintro e w3 ⟨⟨r, rfl, hr, rs⟩, hb⟩; have R := Lib.hid hr; have B3 := Lib.hid (B2.out.trans (hb.mono B2.out.size)); clear hb hr)
        go_ret
        exact ⟨⟨_, rfl, by rw [bl_append, bl_append, E.out, R.out, Z.out]; rfl⟩, B3.out⟩
      · have F1 := sl_to z 1 (by omega) z1
        have F2 := sl_from z 1 (by omega) z1
        have s1 : (z.extract 0 1).size = 1 := by rw [ByteArray.size_extract]; omega
        have s2 : (z.extract 1 z.size).size = z.size - 1 := by rw [ByteArray.size_extract]; omega
        have s3 : bl z = l := Z.out
        by_cases n5 : p < -5
        · have q4 : ¬ (z.size : Int) ≤ p := by omega
          have q5 : ¬ (1 : Int) ≤ p := by omega
          have q6 : ¬ (-5 : Int) ≤ p := by omega
          by_cases h1 : 1 < l.length
          · have z3 : (1 : Int) < (z.size : Int) := by omega
            have E := Lib.hid (d4 (l := l) (p := p) n5)
            rw [if_pos (by omega)] at E
            have CI := Lib.hid (fun w h => cIt (1 - p) (by omega) (by omega) w h)
            clear q1 q2 q3 zs h1
            go_wp2_with (go_at_call 31; refine (CI.out _ (HT.out.below B2.out)).mono ?_; rintro e w3 ⟨⟨r, rfl, hr, rs⟩, hb⟩; have R := Lib.hid hr; have B3 := Lib.hid (B2.out.trans (hb.mono B2.out.size)); clear hb hr)
            go_ret
            exact ⟨⟨_, rfl, by simp only [bl_append, bl_to, bl_from, bl46, blm, blp, E.out, R.out, Z.out, List.append_assoc, List.cons_append, List.nil_append, List.append_nil]⟩, B3.out⟩
          · have z3 : ¬ (1 : Int) < (z.size : Int) := by omega
            have E := Lib.hid (d4 (l := l) (p := p) n5)
            rw [if_neg (by omega)] at E
            have CI := Lib.hid (fun w h => cIt (1 - p) (by omega) (by omega) w h)
            clear q1 q2 q3 zs h1
            go_wp2_with (go_at_call 31; refine (CI.out _ (HT.out.below B2.out)).mono ?_; rintro e w3 ⟨⟨r, rfl, hr, rs⟩, hb⟩; have R := Lib.hid hr; have B3 := Lib.hid (B2.out.trans (hb.mono B2.out.size)); clear hb hr)
            go_ret
            exact ⟨⟨_, rfl, by simp only [bl_append, bl_to, bl_from, bl46, blm, blp, E.out, R.out, Z.out, List.append_assoc, List.cons_append, List.nil_append, List.append_nil]⟩, B3.out⟩
        · have n21 : 21 < p := by omega
          have q4 : (z.size : Int) ≤ p := by omega
          have q5 : (1 : Int) ≤ p := by omega
          have q6 : (-5 : Int) ≤ p := by omega
          have q7 : ¬ p ≤ 21 := by omega
          have q8 : ¬ p ≤ 0 := by omega
          clear n5
          by_cases h1 : 1 < l.length
          · have z3 : (1 : Int) < (z.size : Int) := by omega
            have E := Lib.hid (d5 (l := l) (p := p) n21)
            rw [if_pos (by omega)] at E
            have CI := Lib.hid (fun w h => cIt (p - 1) (by omega) (by omega) w h)
            clear q1 q2 q3 zs h1
            go_wp2_with (go_at_call 31; refine (CI.out _ (HT.out.below B2.out)).mono ?_; rintro e w3 ⟨⟨r, rfl, hr, rs⟩, hb⟩; have R := Lib.hid hr; have B3 := Lib.hid (B2.out.trans (hb.mono B2.out.size)); clear hb hr)
            go_ret
            exact ⟨⟨_, rfl, by simp only [bl_append, bl_to, bl_from, bl46, blm, blp, E.out, R.out, Z.out, List.append_assoc, List.cons_append, List.nil_append, List.append_nil]⟩, B3.out⟩
          · have z3 : ¬ (1 : Int) < (z.size : Int) := by omega
            have E := Lib.hid (d5 (l := l) (p := p) n21)
            rw [if_neg (by omega)] at E
            have CI := Lib.hid (fun w h => cIt (p - 1) (by omega) (by omega) w h)
            clear q1 q2 q3 zs h1
            go_wp2_with (go_at_call 31; refine (CI.out _ (HT.out.below B2.out)).mono ?_; rintro e w3 ⟨⟨r, rfl, hr, rs⟩, hb⟩; have R := Lib.hid hr; have B3 := Lib.hid (B2.out.trans (hb.mono B2.out.size)); clear hb hr)
            go_ret
            exact ⟨⟨_, rfl, by simp only [bl_append, bl_to, bl_from, bl46, blm, blp, E.out, R.out, Z.out, List.append_assoc, List.cons_append, List.nil_append, List.append_nil]⟩, B3.out⟩
end Go.Proofs.YtjkifbkehochoaaGreatDoor

namespace Go.Proofs.YtjkifbkehochoaaGreatDoor
open Go.RowKit Fl
theorem rg_small {b : Nat} (h : b ≤ INF) : rg b = b ∧ sg b = false ∧ U b := by
  unfold INF at h
  exact ⟨Nat.mod_eq_of_lt (by omega), decide_eq_false (by omega), by unfold U; omega⟩
theorem blz_size {z : ByteArray} {l : List Nat} (h : bl z = l) (hl : l.length ≤ 60) : (z.size : Int) ≤ 60 := by rw [← bl_len, h]; omega
set_option maxRecDepth 100000 in
set_option maxHeartbeats 1000000 in
theorem lPrintPos (b : Nat) (w : World) (hb : b ≤ INF) (ht : PowTab w) :
    Calls Tryz.prog 12 #[.float .f64 b] w fun e w' => (∃ z : ByteArray, e = .returned (.string z) ∧ bl z = bodyF b ∧ (z.size : Int) ≤ 60) ∧ Below w.heap.size w w' := by
  obtain ⟨e1, e2, ux⟩ := rg_small hb
  by_cases h0 : b = 0
  · subst h0
    have CS := Lib.hid (split4 0 ux)
    have hc : pCls 0 = 0 ∧ pNeg 0 = false := by decide
    rw [hc.1, hc.2] at CS
    clear ux e1 e2 hc hb ht
    go_enter Tryz.func12, Tryz.ntmps12
    go_wp2_with (go_at_call 29; refine (CS.out _).mono ?_; rintro e w1 ⟨⟨c, d, rfl⟩, hb⟩; have B1 := Lib.hid hb; clear hb)
    go_ret
    exact ⟨⟨_, rfl, rfl, by decide⟩, B1.out.alloc B1.out.size _⟩
  · by_cases h1 : b = INF
    · subst h1
      have CS := Lib.hid (split4 INF ux)
      have hc : pCls INF = 3 ∧ pNeg INF = false := by decide
      rw [hc.1, hc.2] at CS
      have HR : Hid (bodyF INF = [73, 110, 102, 105, 110, 105, 116, 121]) := Lib.hid (by unfold bodyF; rw [if_neg (by decide), if_pos rfl])
      clear ux e1 e2 hc hb ht h0
      go_enter Tryz.func12, Tryz.ntmps12
      go_wp2_with (go_at_call 29; refine (CS.out _).mono ?_; rintro e w1 ⟨⟨c, d, rfl⟩, hb⟩; have B1 := Lib.hid hb; clear hb)
      go_ret
      exact ⟨⟨_, rfl, by rw [HR.out]; rfl, by decide⟩, B1.out.alloc B1.out.size _⟩
    · refine (lPrintFin b w (by omega) (by omega) ht).mono ?_
      rintro e w' ⟨⟨z, rfl, hz⟩, h⟩
      have e : bl z = bodyF b := by rw [hz]; unfold bodyF; rw [if_neg h0, if_neg h1]
      exact ⟨⟨z, rfl, e, blz_size e (bodyF_len hb)⟩, h⟩
set_option maxRecDepth 100000 in
set_option maxHeartbeats 1000000 in
theorem lPrint (x : Nat) (w : World) (hx : U x) (ht : PowTab w) :
    Calls Tryz.prog 12 #[.float .f64 x] w fun e w' => (∃ z : ByteArray, e = .returned (.string z) ∧ bl z = printF x ∧ (z.size : Int) ≤ 61) ∧ Below w.heap.size w w' := by
  have CS := Lib.hid (split4 x hx)
  by_cases hn : INF < rg x
  · have hc : pCls x = 4 ∧ pNeg x = false := by
      rcases cls4 hx with h | h | h | h
      · exact h.2
      · omega
      · omega
      · omega
    rw [hc.1, hc.2] at CS
    have HR : Hid (printF x = [78, 97, 78]) := Lib.hid (by unfold printF; rw [if_pos hn])
    clear hc hn ht hx
    go_enter Tryz.func12, Tryz.ntmps12
    go_wp2_with (go_at_call 29; refine (CS.out _).mono ?_; rintro e w1 ⟨⟨c, d, rfl⟩, hb⟩; have B1 := Lib.hid hb; clear hb)
    go_ret
    exact ⟨⟨_, rfl, by rw [HR.out]; rfl, by decide⟩, B1.out.alloc B1.out.size _⟩
  · have hc : (pCls x == 4) = false ∧ pNeg x = sg x := by
      rcases cls4 hx with h | h | h | h
      · omega
      · exact ⟨by rw [h.2.1]; rfl, h.2.2⟩
      · exact ⟨by rw [h.2.1]; rfl, h.2.2⟩
      · exact ⟨beq_eq_false_iff_ne.2 (by omega), h.2.2.2⟩
    have hle : rg x ≤ INF := by omega
    rcases hs : sg x with _ | _
    · have hx2 : rg x = x := by
        have := hx.lt
        unfold sg at hs
        have h2 := of_decide_eq_false hs
        unfold rg at *
        omega
      refine (lPrintPos x w (by omega) ht).mono ?_
      rintro e w' ⟨⟨z, rfl, hz, h1⟩, h⟩
      have e : bl z = printF x := by
        unfold printF
        rw [if_neg hn, hs, hx2, hz]; rfl
      exact ⟨⟨z, rfl, e, by omega⟩, h⟩
    · rw [hc.2, hs] at CS
      have CP := Lib.hid (fun w h => lPrintPos (rg x) w hle h)
      have CA := Lib.hid (fun w => c133 x w hx)
      have HR : Hid (printF x = 45 :: bodyF (rg x)) := Lib.hid (by unfold printF; rw [if_neg hn, hs]; rfl)
      have g4 := hc.1
      generalize pCls x = k at *
      have HT := Lib.hid ht
      clear hc hn ht hx hle hs
      go_enter Tryz.func12, Tryz.ntmps12
      go_wp2_with (first
        | (go_at_call 29; refine (CS.out _).mono ?_; rintro e w1 ⟨⟨c, d, rfl⟩, hb⟩; have B1 := Lib.hid hb; clear hb)
        | (go_at_call 22; refine (CA.out _).mono ?_; rintro e w2 ⟨rfl, rfl⟩)
        | (go_at_call 12; refine (CP.out _ (HT.out.below (B1.out.alloc B1.out.size _))).mono ?_; rintro e w3 ⟨⟨z, rfl, hz, zs⟩, hb⟩; have Z := Lib.hid hz; have B2 := Lib.hid ((B1.out.alloc B1.out.size _).trans (hb.mono (B1.out.alloc B1.out.size _).size)); clear hb hz))
      go_ret
      exact ⟨⟨_, rfl, by rw [bl_append, HR.out, Z.out]; rfl, by rw [ByteArray.size_append]; have : (⟨#[45]⟩ : ByteArray).size = 1 := rfl; omega⟩, B2.out⟩
end Go.Proofs.YtjkifbkehochoaaGreatDoor

namespace Go.Proofs.YtjkifbkehochoaaGreatDoor.R
open Go.RowKit Fl
end Go.Proofs.YtjkifbkehochoaaGreatDoor.R

namespace Go.Proofs.YtjkifbkehochoaaGreatDoor.R
open Go.RowKit Fl
end Go.Proofs.YtjkifbkehochoaaGreatDoor.R

namespace Go.Proofs.YtjkifbkehochoaaGreatDoor.R
open Go.RowKit Fl
theorem or_bit {q i : Nat} (h : 2 ^ (i + 1) ∣ q) : q ||| 2 ^ i = q + 2 ^ i := by
  obtain ⟨c, rfl⟩ := h
  have h1 := Nat.two_pow_add_eq_or_of_lt (show 2 ^ i < 2 ^ (i + 1) from Nat.pow_lt_pow_right (by decide) (Nat.lt_succ_self i)) c
  exact h1.symm
/-- what stands in the long division -/
structure RT (w wx : World) (vx vy : Value) (X Y j q x : Nat) : Prop where
  nx : NV wx vx x
  ny : NV wx vy Y
  l : Below w.heap.size w wx
  e : X = q * Y + x
  lt : x < 2 ^ j * Y
  d : 2 ^ j ∣ q
  q61 : q < 2305843009213693952
theorem RT.below {w wx wy : World} {vx vy : Value} {X Y j q x : Nat} (h : RT w wx vx vy X Y j q x) (k : Below wx.heap.size wx wy) : RT w wy vx vy X Y j q x :=
  ⟨h.nx.below k, h.ny.below k, h.l.trans (k.mono h.l.size), h.e, h.lt, h.d, h.q61⟩
theorem RT.skip {w wx : World} {vx vy : Value} {X Y j q x : Nat} (h : RT w wx vx vy X Y (j + 1) q x) (k : x < Y * 2 ^ j) : RT w wx vx vy X Y j q x :=
  ⟨h.nx, h.ny, h.l, h.e, by rw [Nat.mul_comm]; exact k, Nat.dvd_trans ⟨2, by rw [Nat.pow_succ]⟩ h.d, h.q61⟩
theorem RT.take {w wx wy : World} {vx vy v' : Value} {X Y j q x : Nat} (h : RT w wx vx vy X Y (j + 1) q x) (k : Y * 2 ^ j ≤ x) (hb : Below wx.heap.size wx wy) (hv : NV wy v' (x - Y * 2 ^ j)) (hq : X < 2305843009213693952 * Y) : RT w wy v' vy X Y j (q + 2 ^ j) (x - Y * 2 ^ j) := by
  have e : X = (q + 2 ^ j) * Y + (x - Y * 2 ^ j) := by
    have := h.e
    rw [Nat.add_mul, Nat.mul_comm (2 ^ j)]
    omega
  refine ⟨hv, h.ny.below hb, h.l.trans (hb.mono h.l.size), e, ?_, ?_, ?_⟩
  · have := h.lt
    rw [Nat.pow_succ, Nat.mul_comm _ 2, Nat.mul_assoc, Nat.mul_comm _ Y] at this
    rw [Nat.mul_comm _ Y]
    omega
  · exact Nat.dvd_add (Nat.dvd_trans ⟨2, by rw [Nat.pow_succ]⟩ h.d) (Nat.dvd_refl _)
  · have h1 : (q + 2 ^ j) * Y < 2305843009213693952 * Y := by omega
    exact Nat.lt_of_mul_lt_mul_right h1
end Go.Proofs.YtjkifbkehochoaaGreatDoor.R

namespace Go.Proofs.YtjkifbkehochoaaGreatDoor.R
open Go.RowKit Fl
theorem blen_half (x : Nat) (h : 0 < x) : blen x = blen (x / 2) + 1 := by
  by_cases h1 : x = 1
  · subst h1; decide
  · have h2 : 0 < x / 2 := by omega
    have a1 := blen_pos x h
    have a2 := blen_pos (x / 2) h2
    rw [Nat.log2_def x, if_pos (by omega)] at a1
    omega
end Go.Proofs.YtjkifbkehochoaaGreatDoor.R
