/- digits.Print: what it prints, in plain words; contracts of what it calls. digits.Print: the walk. digits.Print of any number. galleyref03.less. galleyref03's reads. galleyref03.ratio. galleyref03.place; value at any point. -/
import Derived.Test.YtjkifbkehochoaaGreatDoorMgDmI
import Derived.Test.YtjkifbkehochoaaGreatDoorSi
import Derived.BigQuiet
import Derived.Test.YtjkifbkehochoaaGreatDoorMgDhK
import Derived.Test.YtjkifbkehochoaaGreatDoorQV
import Derived.Test.YtjkifbkehochoaaGreatDoorMgDjB
import Derived.Test.YtjkifbkehochoaaGreatDoorMgDhF
namespace Go.Proofs.YtjkifbkehochoaaGreatDoor
open Go.RowKit Fl

def printD (l : List Nat) (p : Int) : List Nat :=
  if (l.length : Int) ≤ p ∧ p ≤ 21 then l ++ List.replicate (p - l.length).toNat 48
  else if 1 ≤ p ∧ p ≤ 21 then l.take p.toNat ++ [46] ++ l.drop p.toNat
  else if -5 ≤ p ∧ p ≤ 0 then [48, 46] ++ List.replicate (-p).toNat 48 ++ l
  else l.take 1 ++ (if 1 < l.length then 46 :: l.drop 1 else []) ++ (if 1 ≤ p then [101, 43] ++ dgs (p - 1).toNat else [101, 45] ++ dgs (1 - p).toNat)
def bodyF (b : Nat) : List Nat := if b = 0 then [48] else if b = INF then [73, 110, 102, 105, 110, 105, 116, 121] else printD (shD b) (shP b)
def printF (x : Nat) : List Nat := if INF < rg x then [78, 97, 78] else (if sg x = true then [45] else []) ++ bodyF (rg x)
theorem sh_range {b : Nat} (h0 : 0 < b) (h1 : b < INF) : 1 ≤ (shD b).length ∧ (shD b).length ≤ 18 ∧ -400 ≤ shP b ∧ shP b ≤ 400 := by
  have v0 : 0 < V b := by have := V_lt h0; omega
  have vI : V b ≤ V INF := V_le (Nat.le_of_lt h1)
  have hp := place_is v0 vI
  obtain ⟨r1, r2⟩ := hp.range v0 vI
  obtain ⟨d, m, e, m1, m2, hs, -⟩ := srch_ends h0 h1 hp 17 1 (by omega) (by omega) (by omega)
  have hq := q_range hp (n := m) m1
  have h17 := e17s m2
  have hp0 := Nat.pow_pos (n := m - 1) (show 0 < 10 by decide)
  have hd : 0 < d ∧ d < 1000000000000000000 := by
    rcases (sel_read hs).2 with c | c <;> omega
  have nd : Lib.nDigits d ≤ 18 := nd_le (by have : (10 : Nat) ^ 18 = 1000000000000000000 := by decide
                                            omega) (by decide)
  have nd1 : 0 < Lib.nDigits d := by rw [← dgs_len]; exact List.length_pos_iff.2 (dgs_ne d)
  have eS : shS b = (d, m) := e
  have e1 : shD b = trimD (dgs d) := by unfold shD; rw [if_neg (by omega), eS]
  have e2 : shP b = placeF (V b) + Lib.nDigits d - m := by unfold shP; rw [if_neg (by omega), eS]
  have l1 : 0 < (trimD (dgs d)).length := List.length_pos_iff.2 (trim_ne hd.1)
  have l2 : (trimD (dgs d)).length ≤ 18 := by
    unfold trimD
    rw [List.length_take, dgs_len]; omega
  rw [e1, e2]
  omega
theorem cls4 {x : Nat} (hx : U x) : (INF < rg x ∧ pCls x = 4 ∧ pNeg x = false) ∨ (rg x = INF ∧ pCls x = 3 ∧ pNeg x = sg x) ∨ (rg x = 0 ∧ pCls x = 0 ∧ pNeg x = sg x) ∨ (0 < rg x ∧ rg x < INF ∧ (pCls x = 1 ∨ pCls x = 2) ∧ pNeg x = sg x) := by
  unfold pCls pNeg eM fM rg INF
  have : x < 18446744073709551616 := hx.lt
  by_cases h : x / 4503599627370496 % 2048 = 2047
  · by_cases h2 : x % 4503599627370496 = 0
    · right; left
      rw [if_pos h, if_pos h2, if_neg (by omega)]
      exact ⟨by omega, rfl, rfl⟩
    · left
      rw [if_pos h, if_neg h2, if_pos ⟨h, h2⟩]
      exact ⟨by omega, rfl, rfl⟩
  · have hn : (if x / 4503599627370496 % 2048 = 2047 ∧ x % 4503599627370496 ≠ 0 then false else sg x) = sg x := if_neg (fun c => h c.1)
    by_cases h3 : x / 4503599627370496 % 2048 = 0
    · by_cases h2 : x % 4503599627370496 = 0
      · right; right; left
        rw [if_neg h, if_pos h3, if_pos h2]
        exact ⟨by omega, rfl, hn⟩
      · right; right; right
        rw [if_neg h, if_pos h3, if_neg h2]
        exact ⟨by omega, by omega, .inl rfl, hn⟩
    · right; right; right
      rw [if_neg h, if_neg h3]
      exact ⟨by omega, by omega, .inr rfl, hn⟩
theorem dgs_short {n : Nat} (h : n ≤ 1000) : (dgs n).length ≤ 4 := by
  rw [dgs_len]
  exact nd_le (by have : (10 : Nat) ^ 4 = 10000 := by decide
                  omega) (by decide)
theorem printD_len {l : List Nat} {p : Int} (h : l.length ≤ 18) (h1 : -400 ≤ p) (h2 : p ≤ 400) : (printD l p).length ≤ 60 := by
  have a := dgs_short (n := (p - 1).toNat) (by omega)
  have b := dgs_short (n := (1 - p).toNat) (by omega)
  unfold printD
  split
  · simp only [List.length_append, List.length_replicate]; omega
  · split
    · simp only [List.length_append, List.length_take, List.length_drop, List.length_cons, List.length_nil]; omega
    · split
      · simp only [List.length_append, List.length_replicate, List.length_cons, List.length_nil]; omega
      · split <;> split <;> simp only [List.length_append, List.length_take, List.length_drop, List.length_cons, List.length_nil] <;> omega
theorem bodyF_len {b : Nat} (h : b ≤ INF) : (bodyF b).length ≤ 60 := by
  unfold bodyF
  split
  · simp
  · split
    · simp
    · rename_i h0 h1
      obtain ⟨_, l2, p1, p2⟩ := sh_range (b := b) (by omega) (by omega)
      exact printD_len l2 p1 p2
theorem cRep (k : Int) (h0 : 0 ≤ k) (h1 : k ≤ 1000) (w : World) : Calls Tryz.prog 30 #[.string ⟨#[48]⟩, .int .i64 k] w fun e w' => (∃ r : ByteArray, e = .returned (.string r) ∧ bl r = List.replicate k.toNat 48 ∧ (r.size : Int) = k) ∧ Below w.heap.size w w' := by
  obtain ⟨n, rfl⟩ : ∃ n : Nat, k = n := ⟨k.toNat, by omega⟩
  refine (cRepeat ⟨#[48]⟩ n w (by omega) (by show 1 * n ≤ _; omega)).mono ?_
  rintro e w' ⟨rfl, hb⟩
  have hr : ∀ m : Nat, Lib.repeatL [(48 : UInt8)] m = List.replicate m 48 := fun m => by
    induction m with
    | zero => rfl
    | succ m ih => simp [Lib.repeatL] at ih ⊢ <;> simp [List.replicate_succ, ih]
  have e1 : bl ⟨(Lib.repeatL (⟨#[48]⟩ : ByteArray).data.toList n).toArray⟩ = List.replicate n 48 := by
    show bl ⟨(Lib.repeatL [(48 : UInt8)] n).toArray⟩ = _
    rw [hr]
    show (List.replicate n (48 : UInt8)).map UInt8.toNat = _
    rw [List.map_replicate]; rfl
  exact ⟨⟨_, rfl, by rw [e1, Int.toNat_natCast], by rw [← bl_len, e1, List.length_replicate]⟩, hb⟩
theorem cIt (k : Int) (h0 : 0 ≤ k) (h1 : k ≤ 1000) (w : World) (ht : PowTab w) : Calls Tryz.prog 31 #[.int .i64 k] w fun e w' => (∃ r : ByteArray, e = .returned (.string r) ∧ bl r = dgs k.toNat ∧ (r.size : Int) ≤ 4) ∧ Below w.heap.size w w' := by
  obtain ⟨n, rfl⟩ : ∃ n : Nat, k = n := ⟨k.toNat, by omega⟩
  refine (cItoaBig n (by omega) (by omega) w ht).mono ?_
  rintro e w' ⟨rfl, j, os, rfl⟩
  rw [Lib.itoa_nonneg]
  have h2 := dgs_short (n := n) (by omega)
  exact ⟨⟨_, rfl, by rw [bl_dec, Int.toNat_natCast], by rw [← bl_len, bl_dec]; omega⟩, Lib.below_grow w.heap.size w (Nat.le_refl _) j os⟩
end Go.Proofs.YtjkifbkehochoaaGreatDoor

namespace Go.Proofs.YtjkifbkehochoaaGreatDoor
open Go.RowKit Fl

theorem split4 (x : Nat) (hx : U x) : ∀ w, Calls Tryz.prog 29 #[.float .f64 x] w fun e w' => (∃ (c d : Int), e = .returned (.agg #[.bool (pNeg x), .int .i64 (pCls x), .int .u64 c, .int .i64 d])) ∧ Below w.heap.size w w' := fun w => (c30 x w hx).mono (by rintro e w' ⟨rfl, hb⟩; exact ⟨⟨_, _, rfl⟩, hb⟩)
theorem sl_to (z : ByteArray) (p : Int) (h0 : 0 ≤ p) (h1 : p ≤ (z.size : Int)) (W : World) : (Instr.sliceAt 9 (.string z) none (some (.int .i64 p)) none).run Tryz.prog W = .ok (.string (z.extract 0 p.toNat)) W := by
  simp [go_sem, Tryz.underlying9, h0, h1]
theorem sl_from (z : ByteArray) (p : Int) (h0 : 0 ≤ p) (h1 : p ≤ (z.size : Int)) (W : World) : (Instr.sliceAt 9 (.string z) (some (.int .i64 p)) none none).run Tryz.prog W = .ok (.string (z.extract p.toNat z.size)) W := by
  simp [go_sem, Tryz.underlying9, h0, h1]
theorem bl_to (z : ByteArray) (k : Nat) : bl (z.extract 0 k) = (bl z).take k := by rw [bl_extract, List.drop_zero]
theorem bl_from (z : ByteArray) (k : Nat) : bl (z.extract k z.size) = (bl z).drop k := by rw [bl_extract, ← bl_len, List.take_length]
theorem bl46 : bl ⟨#[46]⟩ = [46] := rfl
theorem blm : bl ⟨#[101, 45]⟩ = [101, 45] := rfl
theorem blp : bl ⟨#[101, 43]⟩ = [101, 43] := rfl
theorem bl0p : bl ⟨#[48, 46]⟩ = [48, 46] := rfl
theorem d1 {l : List Nat} {p : Int} (h : (l.length : Int) ≤ p) (h2 : p ≤ 21) : printD l p = l ++ List.replicate (p - l.length).toNat 48 := by
  unfold printD; rw [if_pos ⟨h, h2⟩]
theorem d2 {l : List Nat} {p : Int} (h : ¬ (l.length : Int) ≤ p) (h1 : 1 ≤ p) (h2 : p ≤ 21) : printD l p = l.take p.toNat ++ [46] ++ l.drop p.toNat := by
  unfold printD; rw [if_neg (fun c => h c.1), if_pos ⟨h1, h2⟩]
theorem d3 {l : List Nat} {p : Int} (h : ¬ (l.length : Int) ≤ p) (h1 : -5 ≤ p) (h2 : p ≤ 0) : printD l p = [48, 46] ++ List.replicate (-p).toNat 48 ++ l := by
  unfold printD; rw [if_neg (fun c => h c.1), if_neg (by omega), if_pos ⟨h1, h2⟩]
theorem d4 {l : List Nat} {p : Int} (h : p < -5) : printD l p = l.take 1 ++ (if 1 < l.length then 46 :: l.drop 1 else []) ++ ([101, 45] ++ dgs (1 - p).toNat) := by
  unfold printD; rw [if_neg (by omega), if_neg (by omega), if_neg (by omega), if_neg (show ¬ 1 ≤ p by omega)]
theorem d5 {l : List Nat} {p : Int} (h : 21 < p) : printD l p = l.take 1 ++ (if 1 < l.length then 46 :: l.drop 1 else []) ++ ([101, 43] ++ dgs (p - 1).toNat) := by
  unfold printD; rw [if_neg (by omega), if_neg (by omega), if_neg (by omega), if_pos (show 1 ≤ p by omega)]
set_option maxRecDepth 100000 in
set_option maxHeartbeats 4000000 in
theorem lPrintFin (b : Nat) (w : World) (h0 : 0 < b) (h1 : b < INF) (ht : PowTab w) :
    Calls Tryz.prog 12 #[.float .f64 b] w fun e w' => (∃ z : ByteArray, e = .returned (.string z) ∧ bl z = printD (shD b) (shP b)) ∧ Below w.heap.size w w' := by
  have hr : rg b = b := Nat.mod_eq_of_lt (by unfold INF at h1; omega)
  have hs : sg b = false := decide_eq_false (by unfold INF at h1; omega)
  have ux : U b := by unfold U; unfold INF at h1; omega
  have CS := Lib.hid (split4 b ux)
  have CH := Lib.hid (fun w h => lShort b w ux h)
  have hc : (pCls b = 1 ∨ pCls b = 2) ∧ pNeg b = false := by
    rcases cls4 ux with h | h | h | h
    · omega
    · omega
    · omega
    · exact ⟨h.2.2.1, h.2.2.2.trans hs⟩
  rw [hr] at CH
  rw [hc.2] at CS
  obtain ⟨l1, l2, p1, p2⟩ := sh_range h0 h1
  obtain ⟨l, hl⟩ : ∃ l, l = shD b := ⟨_, rfl⟩
  rw [← hl] at CH l1 l2 ⊢
  generalize shP b = p at *
  have hc1 := hc.1
  generalize pCls b = k at *
  have g0 : (k == 0) = false := beq_eq_false_iff_ne.2 (by omega)
  have g3 : (k == 3) = false := beq_eq_false_iff_ne.2 (by omega)
  have g4 : (k == 4) = false := beq_eq_false_iff_ne.2 (by omega)
  have HT := Lib.hid ht
  clear hr hs ux hc hc1 hl h0 h1 ht
  go_enter Tryz.func12, Tryz.ntmps12
  go_upto_region 11 with (first
    | (go_at_call 29; refine (CS.out _).mono ?_; rintro e w1 ⟨⟨c, d, rfl⟩, hb⟩; have B1 := Lib.hid hb; clear hb)
    | (go_at_call 16; refine (CH.out _ (HT.out.below (B1.out.alloc B1.out.size _))).mono ?_; rintro e w2 ⟨⟨z, rfl, hz⟩, hb⟩; have B2 := Lib.hid ((B1.out.alloc B1.out.size _).trans (hb.mono (B1.out.alloc B1.out.size _).size)); have Z := Lib.hid hz; clear hb hz))
  have zs : (z.size : Int) = (l.length : Int) := by rw [← bl_len, Z.out]
  have z1 : (1 : Int) ≤ (z.size : Int) := by omega
  have z2 : (z.size : Int) ≤ 18 := by omega
  clear CS CH B1 g0 g3 g4 l1 l2
  by_cases q1 : (z.size : Int) ≤ p ∧ p ≤ 21
  · obtain ⟨q1, q2⟩ := q1
    have E := Lib.hid (d1 (l := l) (p := p) (by omega) q2)
    have CR := Lib.hid (cRep (p - (z.size : Int)) (by omega) (by omega))
    have ZS := Lib.hid zs
    clear zs
    go_wp2_with (go_at_call 30; refine (CR.out _).mono ?_; rintro e w3 ⟨⟨r, rfl, hr, rs⟩, hb⟩; have R := Lib.hid hr; have B3 := Lib.hid (B2.out.trans (hb.mono B2.out.size)); clear hb hr)
    go_ret
    exact ⟨⟨_, rfl, by rw [bl_append, E.out, R.out, Z.out, ZS.out]⟩, B3.out⟩
  · by_cases q2 : 1 ≤ p ∧ p ≤ 21
    · obtain ⟨q2, q3⟩ := q2
      have q4 : ¬ (z.size : Int) ≤ p := by omega
      have E := Lib.hid (d2 (l := l) (p := p) (by omega) q2 q3)
      have q5 : p ≤ (z.size : Int) := by omega
      have q6 : 0 ≤ p := by omega
      have s1 : (z.extract 0 p.toNat).size = p.toNat := by rw [ByteArray.size_extract]; omega
      have s2 : (z.extract p.toNat z.size).size = z.size - p.toNat := by rw [ByteArray.size_extract]; omega
      have B3 := B2
      have F1 := sl_to z p q6 q5
      have F2 := sl_from z p q6 q5
      clear q1 zs
      go_wp2_with fail
      go_quiet (fail)
      go_wp2_with fail
      go_ret
      exact ⟨⟨_, rfl, by rw [bl_append, bl_append, bl_to, bl_from, bl46, E.out, Z.out]⟩, BdN B3.out _⟩
    · by_cases q3 : -5 ≤ p ∧ p ≤ 0
      · obtain ⟨q3, q4⟩ := q3
        have q5 : ¬ (z.size : Int) ≤ p := by omega
        have q6 : ¬ (1 : Int) ≤ p := by omega
        have E := Lib.hid (d3 (l := l) (p := p) (by omega) q3 q4)
        have CR := Lib.hid (cRep (-p) (by omega) (by omega))
        clear q1 q2 zs
        go_wp2_with (go_at_call 30; refine (CR.out _).mono ?_; rintro e w3 ⟨⟨r, rfl, hr, rs⟩, hb⟩; have R := Lib.hid hr; have B3 := Lib.hid (B2.out.trans (hb.mono B2.out.size)); clear hb hr)
        go_ret
        exact ⟨⟨_, rfl, by rw [bl_append, bl_append, E.out, R.out, Z.out]; rfl⟩, B3.out⟩
      · have F1 := sl_to z 1 (by omega) z1
        have F2 := sl_from z 1 (by omega) z1
        have s1 : (z.extract 0 1).size = 1 := by rw [ByteArray.size_extract]; omega
        have s2 : (z.extract 1 z.size).size = z.size - 1 := by rw [ByteArray.size_extract]; omega
        have s3 : bl z = l := Z.out
        by_cases n5 : p < -5
        · have q4 : ¬ (z.size : Int) ≤ p := by omega
          have q5 : ¬ (1 : Int) ≤ p := by omega
          have q6 : ¬ (-5 : Int) ≤ p := by omega
          by_cases h1 : 1 < l.length
          · have z3 : (1 : Int) < (z.size : Int) := by omega
            have E := Lib.hid (d4 (l := l) (p := p) n5)
            rw [if_pos (by omega)] at E
            have CI := Lib.hid (fun w h => cIt (1 - p) (by omega) (by omega) w h)
            clear q1 q2 q3 zs h1
            go_wp2_with (go_at_call 31; refine (CI.out _ (HT.out.below B2.out)).mono ?_; rintro e w3 ⟨⟨r, rfl, hr, rs⟩, hb⟩; have R := Lib.hid hr; have B3 := Lib.hid (B2.out.trans (hb.mono B2.out.size)); clear hb hr)
            go_ret
            exact ⟨⟨_, rfl, by simp only [bl_append, bl_to, bl_from, bl46, blm, blp, E.out, R.out, Z.out, List.append_assoc, List.cons_append, List.nil_append, List.append_nil]⟩, B3.out⟩
          · have z3 : ¬ (1 : Int) < (z.size : Int) := by omega
            have E := Lib.hid (d4 (l := l) (p := p) n5)
            rw [if_neg (by omega)] at E
            have CI := Lib.hid (fun w h => cIt (1 - p) (by omega) (by omega) w h)
            clear q1 q2 q3 zs h1
            go_wp2_with (go_at_call 31; refine (CI.out _ (HT.out.below B2.out)).mono ?_; rintro e w3 ⟨⟨r, rfl, hr, rs⟩, hb⟩; have R := Lib.hid hr; have B3 := Lib.hid (B2.out.trans (hb.mono B2.out.size)); clear hb hr)
            go_ret
            exact ⟨⟨_, rfl, by simp only [bl_append, bl_to, bl_from, bl46, blm, blp, E.out, R.out, Z.out, List.append_assoc, List.cons_append, List.nil_append, List.append_nil]⟩, B3.out⟩
        · have n21 : 21 < p := by omega
          have q4 : (z.size : Int) ≤ p := by omega
          have q5 : (1 : Int) ≤ p := by omega
          have q6 : (-5 : Int) ≤ p := by omega
          have q7 : ¬ p ≤ 21 := by omega
          have q8 : ¬ p ≤ 0 := by omega
          clear n5
          by_cases h1 : 1 < l.length
          · have z3 : (1 : Int) < (z.size : Int) := by omega
            have E := Lib.hid (d5 (l := l) (p := p) n21)
            rw [if_pos (by omega)] at E
            have CI := Lib.hid (fun w h => cIt (p - 1) (by omega) (by omega) w h)
            clear q1 q2 q3 zs h1
            go_wp2_with (go_at_call 31; refine (CI.out _ (HT.out.below B2.out)).mono ?_; rintro e w3 ⟨⟨r, rfl, hr, rs⟩, hb⟩; have R := Lib.hid hr; have B3 := Lib.hid (B2.out.trans (hb.mono B2.out.size)); clear hb hr)
            go_ret
            exact ⟨⟨_, rfl, by simp only [bl_append, bl_to, bl_from, bl46, blm, blp, E.out, R.out, Z.out, List.append_assoc, List.cons_append, List.nil_append, List.append_nil]⟩, B3.out⟩
          · have z3 : ¬ (1 : Int) < (z.size : Int) := by omega
            have E := Lib.hid (d5 (l := l) (p := p) n21)
            rw [if_neg (by omega)] at E
            have CI := Lib.hid (fun w h => cIt (p - 1) (by omega) (by omega) w h)
            clear q1 q2 q3 zs h1
            go_wp2_with (go_at_call 31; refine (CI.out _ (HT.out.below B2.out)).mono ?_; rintro e w3 ⟨⟨r, rfl, hr, rs⟩, hb⟩; have R := Lib.hid hr; have B3 := Lib.hid (B2.out.trans (hb.mono B2.out.size)); clear hb hr)
            go_ret
            exact ⟨⟨_, rfl, by simp only [bl_append, bl_to, bl_from, bl46, blm, blp, E.out, R.out, Z.out, List.append_assoc, List.cons_append, List.nil_append, List.append_nil]⟩, B3.out⟩
end Go.Proofs.YtjkifbkehochoaaGreatDoor

namespace Go.Proofs.YtjkifbkehochoaaGreatDoor
open Go.RowKit Fl

theorem rg_small {b : Nat} (h : b ≤ INF) : rg b = b ∧ sg b = false ∧ U b := by
  unfold INF at h
  exact ⟨Nat.mod_eq_of_lt (by omega), decide_eq_false (by omega), by unfold U; omega⟩
theorem blz_size {z : ByteArray} {l : List Nat} (h : bl z = l) (hl : l.length ≤ 60) : (z.size : Int) ≤ 60 := by rw [← bl_len, h]; omega
set_option maxRecDepth 100000 in
set_option maxHeartbeats 1000000 in
theorem lPrintPos (b : Nat) (w : World) (hb : b ≤ INF) (ht : PowTab w) :
    Calls Tryz.prog 12 #[.float .f64 b] w fun e w' => (∃ z : ByteArray, e = .returned (.string z) ∧ bl z = bodyF b ∧ (z.size : Int) ≤ 60) ∧ Below w.heap.size w w' := by
  obtain ⟨e1, e2, ux⟩ := rg_small hb
  by_cases h0 : b = 0
  · subst h0
    have CS := Lib.hid (split4 0 ux)
    have hc : pCls 0 = 0 ∧ pNeg 0 = false := by decide
    rw [hc.1, hc.2] at CS
    clear ux e1 e2 hc hb ht
    go_enter Tryz.func12, Tryz.ntmps12
    go_wp2_with (go_at_call 29; refine (CS.out _).mono ?_; rintro e w1 ⟨⟨c, d, rfl⟩, hb⟩; have B1 := Lib.hid hb; clear hb)
    go_ret
    exact ⟨⟨_, rfl, rfl, by decide⟩, B1.out.alloc B1.out.size _⟩
  · by_cases h1 : b = INF
    · subst h1
      have CS := Lib.hid (split4 INF ux)
      have hc : pCls INF = 3 ∧ pNeg INF = false := by decide
      rw [hc.1, hc.2] at CS
      have HR : Hid (bodyF INF = [73, 110, 102, 105, 110, 105, 116, 121]) := Lib.hid (by unfold bodyF; rw [if_neg (by decide), if_pos rfl])
      clear ux e1 e2 hc hb ht h0
      go_enter Tryz.func12, Tryz.ntmps12
      go_wp2_with (go_at_call 29; refine (CS.out _).mono ?_; rintro e w1 ⟨⟨c, d, rfl⟩, hb⟩; have B1 := Lib.hid hb; clear hb)
      go_ret
      exact ⟨⟨_, rfl, by rw [HR.out]; rfl, by decide⟩, B1.out.alloc B1.out.size _⟩
    · refine (lPrintFin b w (by omega) (by omega) ht).mono ?_
      rintro e w' ⟨⟨z, rfl, hz⟩, h⟩
      have e : bl z = bodyF b := by rw [hz]; unfold bodyF; rw [if_neg h0, if_neg h1]
      exact ⟨⟨z, rfl, e, blz_size e (bodyF_len hb)⟩, h⟩
set_option maxRecDepth 100000 in
set_option maxHeartbeats 1000000 in
theorem lPrint (x : Nat) (w : World) (hx : U x) (ht : PowTab w) :
    Calls Tryz.prog 12 #[.float .f64 x] w fun e w' => (∃ z : ByteArray, e = .returned (.string z) ∧ bl z = printF x ∧ (z.size : Int) ≤ 61) ∧ Below w.heap.size w w' := by
  have CS := Lib.hid (split4 x hx)
  by_cases hn : INF < rg x
  · have hc : pCls x = 4 ∧ pNeg x = false := by
      rcases cls4 hx with h | h | h | h
      · exact h.2
      · omega
      · omega
      · omega
    rw [hc.1, hc.2] at CS
    have HR : Hid (printF x = [78, 97, 78]) := Lib.hid (by unfold printF; rw [if_pos hn])
    clear hc hn ht hx
    go_enter Tryz.func12, Tryz.ntmps12
    go_wp2_with (go_at_call 29; refine (CS.out _).mono ?_; rintro e w1 ⟨⟨c, d, rfl⟩, hb⟩; have B1 := Lib.hid hb; clear hb)
    go_ret
    exact ⟨⟨_, rfl, by rw [HR.out]; rfl, by decide⟩, B1.out.alloc B1.out.size _⟩
  · have hc : (pCls x == 4) = false ∧ pNeg x = sg x := by
      rcases cls4 hx with h | h | h | h
      · omega
      · exact ⟨by rw [h.2.1]; rfl, h.2.2⟩
      · exact ⟨by rw [h.2.1]; rfl, h.2.2⟩
      · exact ⟨beq_eq_false_iff_ne.2 (by omega), h.2.2.2⟩
    have hle : rg x ≤ INF := by omega
    rcases hs : sg x with _ | _
    · have hx2 : rg x = x := by
        have := hx.lt
        unfold sg at hs
        have h2 := of_decide_eq_false hs
        unfold rg at *
        omega
      refine (lPrintPos x w (by omega) ht).mono ?_
      rintro e w' ⟨⟨z, rfl, hz, h1⟩, h⟩
      have e : bl z = printF x := by
        unfold printF
        rw [if_neg hn, hs, hx2, hz]; rfl
      exact ⟨⟨z, rfl, e, by omega⟩, h⟩
    · rw [hc.2, hs] at CS
      have CP := Lib.hid (fun w h => lPrintPos (rg x) w hle h)
      have CA := Lib.hid (fun w => c133 x w hx)
      have HR : Hid (printF x = 45 :: bodyF (rg x)) := Lib.hid (by unfold printF; rw [if_neg hn, hs]; rfl)
      have g4 := hc.1
      generalize pCls x = k at *
      have HT := Lib.hid ht
      clear hc hn ht hx hle hs
      go_enter Tryz.func12, Tryz.ntmps12
      go_wp2_with (first
        | (go_at_call 29; refine (CS.out _).mono ?_; rintro e w1 ⟨⟨c, d, rfl⟩, hb⟩; have B1 := Lib.hid hb; clear hb)
        | (go_at_call 22; refine (CA.out _).mono ?_; rintro e w2 ⟨rfl, rfl⟩)
        | (go_at_call 12; refine (CP.out _ (HT.out.below (B1.out.alloc B1.out.size _))).mono ?_; rintro e w3 ⟨⟨z, rfl, hz, zs⟩, hb⟩; have Z := Lib.hid hz; have B2 := Lib.hid ((B1.out.alloc B1.out.size _).trans (hb.mono (B1.out.alloc B1.out.size _).size)); clear hb hz))
      go_ret
      exact ⟨⟨_, rfl, by rw [bl_append, HR.out, Z.out]; rfl, by rw [ByteArray.size_append]; have : (⟨#[45]⟩ : ByteArray).size = 1 := rfl; omega⟩, B2.out⟩
end Go.Proofs.YtjkifbkehochoaaGreatDoor

namespace Go.Proofs.YtjkifbkehochoaaGreatDoor.R
open Go.RowKit Fl

theorem sub_words {x y c d : Nat} (hx : x < BB) (hy : y < BB) (hc : c ≤ 1) (hd : d = (x + BB - y - c) % BB) : ((-(c : Int) + (x : Int) - (y : Int)) % 4294967296 = (d : Int)) ∧ (-(c : Int) + (x : Int) - (y : Int)) / 4294967296 = -((if x < y + c then 1 else 0 : Nat) : Int) := by
  unfold BB at *
  split <;> omega
theorem u32_int (z : Int) : IntKind.u32.wrap z = z % 4294967296 := rfl
set_option maxRecDepth 100000 in
set_option maxHeartbeats 4000000 in
theorem cLessL {w : World} {v u : Value} {a b : List Nat} (na : NL w v a) (nb : NL w u b) (hla : a.length ≤ 10001) (hlb : b.length ≤ a.length) (hab : val b ≤ val a) :
    Calls Tryz.prog 92 #[v, u] w fun e w' => Below w.heap.size w w' ∧ ∃ v', e = .returned v' ∧ NV w' v' (val a - val b) := by
  have la2 : (a.length : Int) ≤ 10001 := by omega
  have lb2 : (b.length : Int) ≤ 10001 := by omega
  have HW := Lib.hid (And.intro na.1 nb.1)
  have NA1 := Lib.hid na
  have NA2 := Lib.hid nb
  obtain ⟨n, hn⟩ : ∃ n, n = a.length := ⟨_, rfl⟩
  have HN := Lib.hid hn
  have HL := Lib.hid (show n ≤ 10001 by omega)
  have V1 := Lib.hid (sb_val na.1 nb.1 hlb hab)
  rw [← hn] at V1
  have la3 : (a.length : Int) = (n : Int) := by omega
  obtain ⟨A, ac, rfl⟩ := na.form
  obtain ⟨A', bc, rfl⟩ := nb.form
  have em : madeCells #[Value.int .u32 0] 0 = #[] := by unfold madeCells; simp
  have O0 := OU.made w (p := 0) (q := 0) (by omega) (by unfold maxLen; omega) (B := w.heap.size) (Nat.le_refl _)
  rw [em] at O0
  have O0 := Lib.hid O0
  have B0 : Hid (Below w.heap.size w (w.alloc (.cells #[] 106))) := Lib.hid ((Below.refl _ _).alloc (Nat.le_refl _) _)
  clear na nb hla hlb em hn la3
  go_enter Tryz.func92, Tryz.ntmps92
  go_upto_region 2 with fail
  generalize w.alloc (.cells #[] 106) = w1 at *
  generalize (Value.slice (some ⟨w.heap.size, 0, none⟩) 0 0) = v1 at *
  go_wp2_with fail
  go_loopw [5, 6, 7] (fun v c i wx => ∃ k : Nat, k ≤ n ∧ i = .int .i64 k ∧ c = .int .i64 (-((crw (sbF a b) 0 k).2 : Nat)) ∧ Hid (OU wx w.heap.size v (crw (sbF a b) 0 k).1) ∧ Hid (Below w.heap.size w wx)) (fun _ _ i _ => n - (intOf i).toNat)
  case atStart => exact ⟨0, Nat.zero_le _, rfl, rfl, O0, B0⟩
  case round =>
    obtain ⟨k, hk, rfl, rfl, hO, hB⟩ := hrel
    have hkm : (k : Int) ≤ 10001 := by have := HL.out; omega
    by_cases hlt : k < n
    · have HK : Hid (k + 1 ≤ n) := Lib.hid hlt
      have la : k < a.length := by rw [← HN.out]; exact hlt
      by_cases lb : k < b.length
      · clear hlt hk
        have hka : (k : Int) < (a.length : Int) := by omega
        obtain ⟨b1, o1, c1, e1, q1, q2, hA⟩ := (NA1.out.below hB.out).addr (by omega)
        cases e1
        obtain ⟨x, hx⟩ : ∃ x, a[k]? = some x := ⟨a[k], List.getElem?_eq_getElem la⟩
        have kx := hA.2 k x hx
        have gx : a.getD k 0 = x := by rw [List.getD, hx]; rfl
        have xb : x < BB := HW.out.1 x (List.mem_of_getElem? hx)
        have xi : (x : Int) ≤ 4294967295 := by unfold BB at xb; omega
        have hkb : (k : Int) < (b.length : Int) := by omega
        obtain ⟨b2, o2, c2, e2, r1, r2, hA'⟩ := (NA2.out.below hB.out).addr (by omega)
        cases e2
        obtain ⟨y, hy⟩ : ∃ y, b[k]? = some y := ⟨b[k], List.getElem?_eq_getElem lb⟩
        have ky := hA'.2 k y hy
        have gy : b.getD k 0 = y := by rw [List.getD, hy]; rfl
        have yb : y < BB := HW.out.2 y (List.mem_of_getElem? hy)
        have yi : (y : Int) ≤ 4294967295 := by unfold BB at yb; omega
        have E1 : Hid ((crw (sbF a b) 0 (k + 1)).1 = (crw (sbF a b) 0 k).1 ++ [(x + BB - y - (crw (sbF a b) 0 k).2) % BB]) := Lib.hid (by rw [crw, sbF, gx, gy])
        have E2 : Hid ((crw (sbF a b) 0 (k + 1)).2 = (if x < y + (crw (sbF a b) 0 k).2 then 1 else 0)) := Lib.hid (by rw [crw, sbF, gx, gy])
        have hcl := sb_carry a b k
        have L1 : Hid ((crw (sbF a b) 0 k).1.length ≤ 1000000) := Lib.hid (by rw [cr_len]; have := HL.out; omega)
        obtain ⟨lo, hlo⟩ : ∃ lo, lo = (crw (sbF a b) 0 k).2 := ⟨_, rfl⟩
        rw [← hlo] at hcl E1 E2 ⊢
        have hci : (lo : Int) ≤ 1 := by omega
        obtain ⟨d, hd⟩ : ∃ d, d = (x + BB - y - lo) % BB := ⟨_, rfl⟩
        obtain ⟨c3, hc3⟩ : ∃ c3, c3 = (if x < y + lo then 1 else 0) := ⟨_, rfl⟩
        have sw := sub_words xb yb hcl hd
        rw [← hc3] at sw
        rw [← hd] at E1
        rw [← hc3] at E2
        have w3 : IntKind.u32.wrap (-(lo : Int) + (x : Int) - (y : Int)) = (d : Int) := by rw [u32_int]; exact sw.1
        have w4 : (-(lo : Int) + (x : Int) - (y : Int)) / 4294967296 = -(c3 : Int) := sw.2
        clear gx gy hcl hlo hd hc3 hx hA q1 q2 xb hy hA' r1 r2 yb la lb sw
        go_wp2_with (at_builtin; refine wpList_app rfl (.tmp 33) (.tmp 36) rfl w.heap.size _ _ _ rfl hO.out rfl L1.out hB.out.size ?_; intro v' w' own' bel' siz'; replace own' := Lib.hid own'; replace bel' := Lib.hid bel'; clear siz')
        go_roundw
        case rel => exact ⟨k + 1, HK.out, by go_num, by rw [E2.out], Lib.hid (by rw [E1.out]; exact own'.out), Lib.hid (bel'.out w (Nat.le_refl _) hB.out)⟩
        case measure => have := HK.out; simp [intOf]; omega
      · clear hlt hk
        have hka : (k : Int) < (a.length : Int) := by omega
        obtain ⟨b1, o1, c1, e1, q1, q2, hA⟩ := (NA1.out.below hB.out).addr (by omega)
        cases e1
        obtain ⟨x, hx⟩ : ∃ x, a[k]? = some x := ⟨a[k], List.getElem?_eq_getElem la⟩
        have kx := hA.2 k x hx
        have gx : a.getD k 0 = x := by rw [List.getD, hx]; rfl
        have xb : x < BB := HW.out.1 x (List.mem_of_getElem? hx)
        have xi : (x : Int) ≤ 4294967295 := by unfold BB at xb; omega
        have hkb : ¬ (k : Int) < (b.length : Int) := by omega
        have gy : b.getD k 0 = 0 := by rw [List.getD, List.getElem?_eq_none (by omega)]; rfl
        have E1 : Hid ((crw (sbF a b) 0 (k + 1)).1 = (crw (sbF a b) 0 k).1 ++ [(x + BB - 0 - (crw (sbF a b) 0 k).2) % BB]) := Lib.hid (by rw [crw, sbF, gx, gy])
        have E2 : Hid ((crw (sbF a b) 0 (k + 1)).2 = (if x < 0 + (crw (sbF a b) 0 k).2 then 1 else 0)) := Lib.hid (by rw [crw, sbF, gx, gy])
        have hcl := sb_carry a b k
        have L1 : Hid ((crw (sbF a b) 0 k).1.length ≤ 1000000) := Lib.hid (by rw [cr_len]; have := HL.out; omega)
        obtain ⟨lo, hlo⟩ : ∃ lo, lo = (crw (sbF a b) 0 k).2 := ⟨_, rfl⟩
        rw [← hlo] at hcl E1 E2 ⊢
        have hci : (lo : Int) ≤ 1 := by omega
        obtain ⟨d, hd⟩ : ∃ d, d = (x + BB - 0 - lo) % BB := ⟨_, rfl⟩
        obtain ⟨c3, hc3⟩ : ∃ c3, c3 = (if x < 0 + lo then 1 else 0) := ⟨_, rfl⟩
        have sw := sub_words xb BB_pos hcl hd
        rw [← hc3, show ((0 : Nat) : Int) = 0 from rfl, Int.sub_zero] at sw
        rw [← hd] at E1
        rw [← hc3] at E2
        have w3 : IntKind.u32.wrap (-(lo : Int) + (x : Int)) = (d : Int) := by rw [u32_int]; exact sw.1
        have w4 : (-(lo : Int) + (x : Int)) / 4294967296 = -(c3 : Int) := sw.2
        clear gx gy hcl hlo hd hc3 hx hA q1 q2 xb la lb sw
        go_wp2_with (at_builtin; refine wpList_app rfl (.tmp 33) (.tmp 36) rfl w.heap.size _ _ _ rfl hO.out rfl L1.out hB.out.size ?_; intro v' w' own' bel' siz'; replace own' := Lib.hid own'; replace bel' := Lib.hid bel'; clear siz')
        go_roundw
        case rel => exact ⟨k + 1, HK.out, by go_num, by rw [E2.out], Lib.hid (by rw [E1.out]; exact own'.out), Lib.hid (bel'.out w (Nat.le_refl _) hB.out)⟩
        case measure => have := HK.out; simp [intOf]; omega
    · have hkn : k = n := by omega
      subst hkn
      have hka : ¬ (k : Int) < (a.length : Int) := by have := HN.out; omega
      have W1 : Hid (W64 (crw (sbF a b) 0 k).1) := Lib.hid (cr_w64 (fun k c => Nat.mod_lt _ BB_pos) _)
      clear hlt hk
      go_wp2_with fail
      refine (cTrim (hO.out.nl W1.out)).mono ?_
      rintro e w2 ⟨rfl, v2, rfl, hv2, hg2⟩
      have R2 : Hid (NV wr v2 (val a - val b)) := Lib.hid ⟨_, hv2, tn_can _ (Nat.le_refl _), by rw [tn_val _ (Nat.le_refl _), List.take_length, V1.out]⟩
      clear hv2 hg2
      go_wp2_with fail
      go_ret
      exact ⟨hB.out, _, rfl, R2.out⟩
theorem cLess {w : World} {v u : Value} {x y L : Nat} (hv : NV w v x) (hu : NV w u y) (hL : L ≤ 10000) (hx : x < BB ^ L) (hy : y ≤ x) :
    Calls Tryz.prog 92 #[v, u] w fun e w' => Below w.heap.size w w' ∧ ∃ v', e = .returned v' ∧ NV w' v' (x - y) := by
  obtain ⟨a, na, ca, rfl⟩ := hv
  obtain ⟨b, nb, cb, rfl⟩ := hu
  have h : b.length ≤ a.length := by
    rcases Nat.lt_or_ge a.length b.length with c | c
    · have := len_lt na.1 cb c; omega
    · exact c
  exact cLessL na nb (by have := len_small na.1 ca hx; omega) h hy
end Go.Proofs.YtjkifbkehochoaaGreatDoor.R

namespace Go.Proofs.YtjkifbkehochoaaGreatDoor.R
open Go.RowKit Fl

theorem cmpR_sign {x y : Nat} {r : Int} (h : CmpR x y r) : (r < 0 ↔ x < y) ∧ (r = 0 ↔ x = y) ∧ (0 < r ↔ y < x) := by
  obtain ⟨a, b, c⟩ := h
  rcases Nat.lt_trichotomy x y with q | q | q
  · have := a q; omega
  · have := b q; omega
  · have := c q; omega
theorem pE_le {b : Nat} (h : b < 9218868437227405312) : pE b ≤ 2045 := by
  unfold pE
  have e52 : (2 : Nat) ^ 52 = 4503599627370496 := by decide
  rw [e52]; omega
set_option maxRecDepth 100000 in
set_option maxHeartbeats 4000000 in
theorem cReads {w : World} {va vb : Value} {x y b : Nat} (hA : AgP w va vb x y) (hy : 0 < y) (h0 : 0 < b) (h1 : b < INF) :
    Calls Tryz.prog 49 #[.agg #[va, vb], .int .u64 b] w fun e w' => e = .returned (.bool (decide (rungM (x * 2 ^ K) y = b))) ∧ Below w.heap.size w w' := by
  have HA := Lib.hid hA
  have S79 := Lib.hid (size79 va vb)
  have N0 : Hid (NR w (w.alloc (.cells #[va, vb] 79)) w.heap.size va vb) := Lib.hid ⟨fun j v hj => by
    match j, hj with
    | 0, hj => simp at hj; subst hj; simp [go_sem]
    | 1, hj => simp at hj; subst hj; simp [go_sem], by simp, (Below.refl _ _).alloc (Nat.le_refl _) _⟩
  obtain ⟨c, rfl⟩ : ∃ c, b = c + 1 := ⟨b - 1, by omega⟩
  have hI : c + 1 < 9218868437227405312 := h1
  obtain ⟨D, hD⟩ : ∃ D, D = decide (rungM (x * 2 ^ K) y = c + 1) := ⟨_, rfl⟩
  rw [← hD]
  have rd := rds_iff (x * 2 ^ K) y (c + 1) hy h0 h1
  unfold rdsP at rd
  rw [Nat.add_sub_cancel] at rd
  have u1 := mid_parts (c + 1)
  have u0 := mid_parts c
  have HD : Hid (D = decide ((2 * (x * 2 ^ K) < (2 * pM (c + 1) + 1) * 2 ^ pE (c + 1) * y ∨ (2 * (x * 2 ^ K) = (2 * pM (c + 1) + 1) * 2 ^ pE (c + 1) * y ∧ (c + 1) % 2 = 0)) ∧ ((2 * pM c + 1) * 2 ^ pE c * y < 2 * (x * 2 ^ K) ∨ ((2 * pM c + 1) * 2 ^ pE c * y = 2 * (x * 2 ^ K) ∧ (c + 1) % 2 = 0)))) := Lib.hid (by
    rw [hD]; refine decide_eq_decide.2 ?_; rw [u1, u0]; exact rd.symm)
  have CP1 := Lib.hid (fun w => cParts (c + 1) w (by omega))
  have CP0 := Lib.hid (fun w => cParts c w (by omega))
  have b1 := pE_le hI
  have b0 := pE_le (show c < 9218868437227405312 by omega)
  have bM1 := pM_lt (c + 1)
  have bM0 := pM_lt c
  have e53 : (2 : Nat) ^ 53 = 9007199254740992 := by decide
  obtain ⟨k1, hk1⟩ : ∃ k1, k1 = (pE (c + 1) : Int) - 1074 := ⟨_, rfl⟩
  obtain ⟨k0, hk0⟩ : ∃ k0, k0 = (pE c : Int) - 1074 := ⟨_, rfl⟩
  obtain ⟨m1, hm1⟩ : ∃ m1, m1 = 2 * pM (c + 1) + 1 := ⟨_, rfl⟩
  obtain ⟨m0, hm0⟩ : ∃ m0, m0 = 2 * pM c + 1 := ⟨_, rfl⟩
  have CA1 := Lib.hid (fun wx (hb : Below w.heap.size w wx) => (hA wx m1 (k1 - 1) hb (by omega) (by omega) (by omega)).mono fun e w' ⟨⟨r, he, hr⟩, hw⟩ => (⟨⟨r, he, cmpR_sign (by have := cmp_half (E := pE (c + 1)) (by omega) hr; rw [hm1] at this; exact this)⟩, hw⟩ : (∃ r, e = Ending.returned (.int .i64 r) ∧ ((r < 0 ↔ 2 * (x * 2 ^ K) < (2 * pM (c + 1) + 1) * 2 ^ pE (c + 1) * y) ∧ (r = 0 ↔ 2 * (x * 2 ^ K) = (2 * pM (c + 1) + 1) * 2 ^ pE (c + 1) * y) ∧ (0 < r ↔ (2 * pM (c + 1) + 1) * 2 ^ pE (c + 1) * y < 2 * (x * 2 ^ K)))) ∧ Below wx.heap.size wx w'))
  have CA0 := Lib.hid (fun wx (hb : Below w.heap.size w wx) => (hA wx m0 (k0 - 1) hb (by omega) (by omega) (by omega)).mono fun e w' ⟨⟨r, he, hr⟩, hw⟩ => (⟨⟨r, he, cmpR_sign (by have := cmp_half (E := pE c) (by omega) hr; rw [hm0] at this; exact this)⟩, hw⟩ : (∃ r, e = Ending.returned (.int .i64 r) ∧ ((r < 0 ↔ 2 * (x * 2 ^ K) < (2 * pM c + 1) * 2 ^ pE c * y) ∧ (r = 0 ↔ 2 * (x * 2 ^ K) = (2 * pM c + 1) * 2 ^ pE c * y) ∧ (0 < r ↔ (2 * pM c + 1) * 2 ^ pE c * y < 2 * (x * 2 ^ K)))) ∧ Below wx.heap.size wx w'))
  rw [← hk1] at CP1
  rw [← hk0] at CP0
  have k1a : -1074 ≤ k1 := by omega
  have k1b : k1 ≤ 971 := by omega
  have k0a : -1074 ≤ k0 := by omega
  have k0b : k0 ≤ 971 := by omega
  have w1m : 2 * ((pM (c + 1) : Nat) : Int) + 1 = (m1 : Int) := by omega
  have w0m : 2 * ((pM c : Nat) : Int) + 1 = (m0 : Int) := by omega
  have bm1 : ((pM (c + 1) : Nat) : Int) ≤ 9007199254740992 := by omega
  have bm0 : ((pM c : Nat) : Int) ≤ 9007199254740992 := by omega
  obtain ⟨bb, hbb⟩ : ∃ bb, bb = c + 1 := ⟨_, rfl⟩
  have bbi : (bb : Int) - 1 = (c : Int) := by omega
  have bb2 : (bb : Int) ≤ 9218868437227405312 := by omega
  have bb3 : (1 : Int) ≤ (bb : Int) := by omega
  rw [← hbb] at CP1 CA1 HD w1m bm1 ⊢
  generalize (2 * pM bb + 1) * 2 ^ pE bb * y = M1 at *
  generalize (2 * pM c + 1) * 2 ^ pE c * y = M0 at *
  generalize 2 * (x * 2 ^ K) = XX at *
  generalize pM bb = n1 at *
  generalize pM c = n0 at *
  clear hA hy h0 h1 hI hD rd u1 u0 b1 b0 bM1 bM0 e53 hk1 hk0 hm1 hm0 hbb
  go_enter Tryz.func49, Tryz.ntmps49
  go_upto_region 1 with fail
  refine wp_gen' (fun wx => Hid (NR w wx w.heap.size va vb)) N0 ?_
  intro w0 hW
  clear N0
  go_upto_region 3 with (first
    | (go_at_call 87; with_reducible refine (CP1.out _).mono ?_; rintro e w' ⟨rfl, rfl⟩)
    | (refine wpList_load_mid rfl 79 (.tmp 2) rfl w.heap.size 0 rfl [va, vb] _ hW.out.r Tryz.underlying79 rfl S79.out ?_)
    | (go_at_call 88; refine (CA1.out _ hW.out.l).mono ?_; rintro e w2 ⟨⟨r, rfl, hr⟩, hb⟩; have HC1 := Lib.hid hr; have hW2 := Lib.hid (hW.out.below hb); clear hr hb))
  clear CA1 CP1 hW
  go_upto_region 5 with (first
    | (go_at_call 87; with_reducible refine (CP0.out _).mono ?_; rintro e w' ⟨rfl, rfl⟩)
    | (refine wpList_load_mid rfl 79 (.tmp 2) rfl w.heap.size 0 rfl [va, vb] _ hW2.out.r Tryz.underlying79 rfl S79.out ?_)
    | (go_at_call 88; refine (CA0.out _ hW2.out.l).mono ?_; rintro e w3 ⟨⟨t, rfl, hr⟩, hb⟩; have HC0 := Lib.hid hr; have hW3 := Lib.hid (hW2.out.below hb); clear hr hb))
  clear CA0 CP0 hW2
  have bm : bb % 2 = 0 ∨ bb % 2 = 1 := by omega
  have E : D = true ↔ ((r < 0 ∨ (r = 0 ∧ bb % 2 = 0)) ∧ (0 < t ∨ (t = 0 ∧ bb % 2 = 0))) := by
    rw [HD.out, decide_eq_true_iff, HC1.out.1, HC1.out.2.1, HC0.out.2.2, HC0.out.2.1, eq_comm (a := M0)]
  clear HD HC1 HC0
  rcases Int.lt_trichotomy r 0 with q1 | q1 | q1 <;> rcases Int.lt_trichotomy t 0 with q2 | q2 | q2 <;> rcases bm with q3 | q3
  all_goals
    have DD : D = true ∨ D = false := by cases D <;> simp
    have E2 : Hid (D = decide ((r < 0 ∨ (r = 0 ∧ bb % 2 = 0)) ∧ (0 < t ∨ (t = 0 ∧ bb % 2 = 0)))) := Lib.hid (by
      rcases DD with d | d
      · rw [d]; exact (decide_eq_true (E.1 d)).symm
      · rw [d]; refine (decide_eq_false (fun h => ?_)).symm; rw [E.2 h] at d; cases d)
    clear E DD
    have g1 : (bb : Int) % 2 = ((bb % 2 : Nat) : Int) := by omega
    rw [q3] at g1
    (try have n1 : ¬ r < 0 := by omega)
    (try have n2 : ¬ r = 0 := by omega)
    (try have n3 : ¬ 0 < t := by omega)
    (try have n4 : ¬ t = 0 := by omega)
    (try subst q1)
    (try subst q2)
    (first
      | have E3 : Hid (D = true) := Lib.hid (by rw [E2.out, q3]; exact decide_eq_true (by omega))
      | have E3 : Hid (D = false) := Lib.hid (by rw [E2.out, q3]; exact decide_eq_false (by omega)))
    clear E2 q3
    go_wp2_with fail
    go_ret
    exact ⟨by rw [E3.out]; rfl, hW3.out.l⟩
end Go.Proofs.YtjkifbkehochoaaGreatDoor.R

namespace Go.Proofs.YtjkifbkehochoaaGreatDoor.R
open Go.RowKit Fl

theorem or_bit {q i : Nat} (h : 2 ^ (i + 1) ∣ q) : q ||| 2 ^ i = q + 2 ^ i := by
  obtain ⟨c, rfl⟩ := h
  have h1 := Nat.two_pow_add_eq_or_of_lt (show 2 ^ i < 2 ^ (i + 1) from Nat.pow_lt_pow_right (by decide) (Nat.lt_succ_self i)) c
  exact h1.symm
theorem or_shl {q i : Nat} (h : 2 ^ (i + 1) ∣ q) (hi : i ≤ 60) (hq : q < 2305843009213693952) : bits .or .u64 (q : Int) (IntKind.u64.wrap (2 ^ i)) = ((q + 2 ^ i : Nat) : Int) := by
  have h1 : (2 : Nat) ^ i ≤ 2 ^ 60 := Nat.pow_le_pow_right (by decide) hi
  have h60 : (2 : Nat) ^ 60 = 1152921504606846976 := by decide
  have e : IntKind.u64.wrap ((2 : Int) ^ i) = ((2 ^ i : Nat) : Int) := by
    rw [show ((2 : Int) ^ i) = ((2 ^ i : Nat) : Int) from by push_cast; rfl, IntKind.wrap_u64]; omega
  rw [e, u64_or_nat _ _ (by omega) (by omega), or_bit h]
/-- what stands in the long division -/
structure RT (w wx : World) (vx vy : Value) (X Y j q x : Nat) : Prop where
  nx : NV wx vx x
  ny : NV wx vy Y
  l : Below w.heap.size w wx
  e : X = q * Y + x
  lt : x < 2 ^ j * Y
  d : 2 ^ j ∣ q
  q61 : q < 2305843009213693952
theorem RT.below {w wx wy : World} {vx vy : Value} {X Y j q x : Nat} (h : RT w wx vx vy X Y j q x) (k : Below wx.heap.size wx wy) : RT w wy vx vy X Y j q x :=
  ⟨h.nx.below k, h.ny.below k, h.l.trans (k.mono h.l.size), h.e, h.lt, h.d, h.q61⟩
theorem RT.skip {w wx : World} {vx vy : Value} {X Y j q x : Nat} (h : RT w wx vx vy X Y (j + 1) q x) (k : x < Y * 2 ^ j) : RT w wx vx vy X Y j q x :=
  ⟨h.nx, h.ny, h.l, h.e, by rw [Nat.mul_comm]; exact k, Nat.dvd_trans ⟨2, by rw [Nat.pow_succ]⟩ h.d, h.q61⟩
theorem RT.take {w wx wy : World} {vx vy v' : Value} {X Y j q x : Nat} (h : RT w wx vx vy X Y (j + 1) q x) (k : Y * 2 ^ j ≤ x) (hb : Below wx.heap.size wx wy) (hv : NV wy v' (x - Y * 2 ^ j)) (hq : X < 2305843009213693952 * Y) : RT w wy v' vy X Y j (q + 2 ^ j) (x - Y * 2 ^ j) := by
  have e : X = (q + 2 ^ j) * Y + (x - Y * 2 ^ j) := by
    have := h.e
    rw [Nat.add_mul, Nat.mul_comm (2 ^ j)]
    omega
  refine ⟨hv, h.ny.below hb, h.l.trans (hb.mono h.l.size), e, ?_, ?_, ?_⟩
  · have := h.lt
    rw [Nat.pow_succ, Nat.mul_comm _ 2, Nat.mul_assoc, Nat.mul_comm _ Y] at this
    rw [Nat.mul_comm _ Y]
    omega
  · exact Nat.dvd_add (Nat.dvd_trans ⟨2, by rw [Nat.pow_succ]⟩ h.d) (Nat.dvd_refl _)
  · have h1 : (q + 2 ^ j) * Y < 2305843009213693952 * Y := by omega
    exact Nat.lt_of_mul_lt_mul_right h1
theorem lt_pow32 {x a L : Nat} (h : x < 2 ^ a) (ha : a ≤ 32 * L) : x < BB ^ L := by
  rw [BB_pow]; exact Nat.lt_of_lt_of_le h (Nat.pow_le_pow_right (by decide) ha)
theorem ten_two (n : Nat) : 10 ^ n ≤ 2 ^ (4 * n) := by
  rw [Nat.pow_mul]; exact Nat.pow_le_pow_left (by decide) n
set_option maxRecDepth 100000 in
set_option maxHeartbeats 4000000 in
theorem cRatio {b : Nat} {s : Int} (w : World) (h1 : b < INF) (s1 : -400 ≤ s) (s2 : s ≤ 400) {X Y : Nat} (hX : X = pM b * 2 ^ ((pE b : Int) - 1074).toNat * 10 ^ (-s).toNat) (hY : Y = 2 ^ (-((pE b : Int) - 1074)).toNat * 10 ^ s.toNat) (hq : X < 2305843009213693952 * Y) :
    Calls Tryz.prog 46 #[.int .u64 b, .int .i64 s] w fun e w' => (∃ r, e = .returned (.tuple #[.int .u64 (X / Y : Nat), .int .i64 r]) ∧ CmpR (2 * (X % Y)) Y r) ∧ Below w.heap.size w w' := by
  have hI : b < 9218868437227405312 := h1
  have CP := Lib.hid (fun w => cParts b w (by omega))
  have b1 := pE_le hI
  have bM := pM_lt b
  have e53 : (2 : Nat) ^ 53 = 9007199254740992 := by decide
  have BM : Hid (pM b < 2 ^ 53) := Lib.hid bM
  obtain ⟨k, hk⟩ : ∃ k, k = (pE b : Int) - 1074 := ⟨_, rfl⟩
  rw [← hk] at hX hY CP
  have k1a : -1074 ≤ k := by omega
  have k1b : k ≤ 971 := by omega
  have bmi : ((pM b : Nat) : Int) ≤ 9007199254740992 := by omega
  have CO1 : Hid (∀ w : World, Calls Tryz.prog 48 #[.int .u64 1] w fun e w' => Below w.heap.size w w' ∧ ∃ v', e = .returned v' ∧ NV w' v' 1 ∧ ∀ g, blk v' = some g → w.heap.size ≤ g) := Lib.hid (fun w => cOf 1 w (by decide))
  have CO := Lib.hid (fun w => cOf (pM b) w (by omega))
  obtain ⟨X1, hX1⟩ : ∃ X1, X1 = pM b * 2 ^ k.toNat := ⟨_, rfl⟩
  obtain ⟨Y1, hY1⟩ : ∃ Y1, Y1 = 2 ^ (-k).toNat := ⟨_, rfl⟩
  rw [← hX1] at hX
  rw [← hY1] at hY
  obtain ⟨a1, ha1⟩ : ∃ a1 : Nat, a1 = 1075 := ⟨_, rfl⟩
  obtain ⟨a2, ha2⟩ : ∃ a2 : Nat, a2 = 1600 := ⟨_, rfl⟩
  have z1 : X1 < 2 ^ a1 := by
    rw [hX1]
    obtain ⟨n, hn⟩ : ∃ n : Nat, n = 1022 := ⟨_, rfl⟩
    obtain ⟨m, hm⟩ : ∃ m : Nat, m = 53 := ⟨_, rfl⟩
    rw [show a1 = m + n by omega, Nat.pow_add]
    rw [← hm] at bM
    exact Nat.mul_lt_mul_of_lt_of_le bM (Nat.pow_le_pow_right (by decide) (by omega)) (Nat.two_pow_pos _)
  have z2 : Y1 < 2 ^ a1 := by
    rw [hY1]
    exact Nat.pow_lt_pow_right (by decide) (by omega)
  have zt : ∀ (x n : Nat), x < 2 ^ a1 → n ≤ 400 → x * 10 ^ n < 2 ^ (a1 + a2) := fun x n h1 h2 => by
    rw [Nat.pow_add]
    exact Nat.mul_lt_mul_of_lt_of_le h1 (Nat.le_trans (ten_two n) (Nat.pow_le_pow_right (by decide) (by omega))) (Nat.two_pow_pos _)
  have zX : X < 2 ^ (a1 + a2) := by rw [hX]; exact zt _ _ z1 (by omega)
  have zY : Y < 2 ^ (a1 + a2) := by rw [hY]; exact zt _ _ z2 (by omega)
  have y0 : 0 < Y := by rw [hY, hY1]; exact Nat.mul_pos (Nat.two_pow_pos _) (Nat.pow_pos (by decide))
  have LX : Hid (X < BB ^ 100 ∧ Y < BB ^ 100 ∧ X1 < BB ^ 100 ∧ Y1 < BB ^ 100) := Lib.hid ⟨lt_pow32 zX (by omega), lt_pow32 zY (by omega), lt_pow32 z1 (by omega), lt_pow32 z2 (by omega)⟩
  have LT : Hid (∀ i, i ≤ 60 → Y * 2 ^ i < BB ^ 100) := Lib.hid (fun i hi => by
    obtain ⟨a3, ha3⟩ : ∃ a3 : Nat, a3 = 60 := ⟨_, rfl⟩
    refine lt_pow32 (a := a1 + a2 + a3) ?_ (by omega)
    rw [Nat.pow_add]
    exact Nat.mul_lt_mul_of_lt_of_le zY (Nat.pow_le_pow_right (by decide) (by omega)) (Nat.two_pow_pos _))
  have EX1 := Lib.hid hX1
  have EY1 := Lib.hid hY1
  have EX := Lib.hid hX
  have EY := Lib.hid hY
  have HQ := Lib.hid hq
  have Y0 := Lib.hid y0
  generalize pM b = m at *
  clear hk hX hY hX1 hY1 z1 z2 zt zX zY ha1 ha2 y0 e53 bM b1 hI h1 hq
  go_enter Tryz.func46, Tryz.ntmps46
  go_upto_region 4 with (first
    | (go_at_call 87; refine (CP.out _).mono ?_; rintro e w' ⟨rfl, rfl⟩)
    | (go_at_call 48; with_reducible refine (CO.out _).mono ?_; rintro e w2 ⟨hb, vx, rfl, hvx, -⟩; have J := Lib.hid hb; have KX := Lib.hid hvx; clear hb hvx)
    | (go_at_call 48; with_reducible refine (CO1.out _).mono ?_; rintro e w3 ⟨hb, vy, rfl, hvy, -⟩; have J2 := Lib.hid (J.out.trans (hb.mono J.out.size)); have KX2 := Lib.hid (KX.out.below hb); have KY := Lib.hid hvy; clear hb hvy))
  clear KX J CO CO1 CP
  go_upto_if 22 with fail
  go_cut [8, 9] (fun a c wx => Hid (NV wx a X1 ∧ NV wx c Y1 ∧ Below w.heap.size w wx))
  case first =>
    by_cases hk0 : 0 ≤ k
    · obtain ⟨n, rfl⟩ : ∃ n : Nat, k = (n : Int) := ⟨k.toNat, by omega⟩
      have ex : X1 = m * 2 ^ n := by rw [EX1.out, show ((n : Int)).toNat = n by omega]
      have ey : Y1 = 1 := by rw [EY1.out, show (-(n : Int)).toNat = 0 by omega, Nat.pow_zero]
      have CT := Lib.hid (cTwos KX2.out (L := 100) (n := n) (by decide) (by rw [← ex]; exact LX.out.2.2.1) (by omega))
      rw [← ex] at CT
      have EY2 := Lib.hid ey
      clear ex ey
      go_wp2_with (go_at_call 89; refine CT.out.mono ?_; rintro e w4 ⟨hb, v4, rfl, hv4⟩; have R4 := Lib.hid (And.intro hv4 (And.intro (KY.out.below hb) (J2.out.trans (hb.mono J2.out.size)))); clear hb hv4)
      go_meet
      exact Lib.hid ⟨R4.out.1, by rw [EY2.out]; exact R4.out.2.1, R4.out.2.2⟩
    · obtain ⟨n, rfl⟩ : ∃ n : Nat, k = -(n : Int) := ⟨(-k).toNat, by omega⟩
      have ex : X1 = m := by rw [EX1.out, show (-(n : Int)).toNat = 0 by omega, Nat.pow_zero, Nat.mul_one]
      have ey : Y1 = 1 * 2 ^ n := by rw [EY1.out, show (- -(n : Int)).toNat = n by omega, Nat.one_mul]
      have CT := Lib.hid (cTwos KY.out (L := 100) (n := n) (by decide) (by rw [← ey]; exact LX.out.2.2.2) (by omega))
      rw [← ey] at CT
      have n2 : IntKind.i64.wrap (- -(n : Int)) = (n : Int) := by rw [Int.neg_neg]; exact IntWalk.i64_in _ (by omega)
      have n3 : (n : Int) ≤ 1074 := by omega
      have EX2 := Lib.hid ex
      clear ex ey
      go_wp2_with (go_at_call 89; (try rw [n2]); refine CT.out.mono ?_; rintro e w4 ⟨hb, v4, rfl, hv4⟩; have R4 := Lib.hid (And.intro hv4 (And.intro (KX2.out.below hb) (J2.out.trans (hb.mono J2.out.size)))); clear hb hv4)
      go_meet
      exact Lib.hid ⟨by rw [EX2.out]; exact R4.out.2.1, R4.out.1, R4.out.2.2⟩
  case rest =>
    clear KX2 KY J2
    go_upto_if 31 with fail
    go_cut [8, 9] (fun a c wx => Hid (NV wx a X ∧ NV wx c Y ∧ Below w.heap.size w wx))
    case first =>
      by_cases hs0 : 0 ≤ s
      · obtain ⟨n, rfl⟩ : ∃ n : Nat, s = (n : Int) := ⟨s.toNat, by omega⟩
        have ex : X = X1 := by rw [EX.out, show (-(n : Int)).toNat = 0 by omega, Nat.pow_zero, Nat.mul_one]
        have ey : Y = Y1 * 10 ^ n := by rw [EY.out, show ((n : Int)).toNat = n by omega]
        have CT := Lib.hid (cTens hcut.out.2.1 (L := 100) (n := n) (by decide) (by rw [← ey]; exact LX.out.2.1) (by omega))
        rw [← ey] at CT
        have EX2 := Lib.hid ex
        clear ex ey
        go_wp2_with (go_at_call 90; refine CT.out.mono ?_; rintro e w4 ⟨hb, v4, rfl, hv4⟩; have R4 := Lib.hid (And.intro hv4 (And.intro (hcut.out.1.below hb) (hcut.out.2.2.trans (hb.mono hcut.out.2.2.size)))); clear hb hv4)
        go_meet
        exact Lib.hid ⟨by rw [EX2.out]; exact R4.out.2.1, R4.out.1, R4.out.2.2⟩
      · obtain ⟨n, rfl⟩ : ∃ n : Nat, s = -(n : Int) := ⟨(-s).toNat, by omega⟩
        have ex : X = X1 * 10 ^ n := by rw [EX.out, show (- -(n : Int)).toNat = n by omega]
        have ey : Y = Y1 := by rw [EY.out, show (-(n : Int)).toNat = 0 by omega, Nat.pow_zero, Nat.mul_one]
        have CT := Lib.hid (cTens hcut.out.1 (L := 100) (n := n) (by decide) (by rw [← ex]; exact LX.out.1) (by omega))
        rw [← ex] at CT
        have n2 : IntKind.i64.wrap (- -(n : Int)) = (n : Int) := by rw [Int.neg_neg]; exact IntWalk.i64_in _ (by omega)
        have n3 : (n : Int) ≤ 400 := by omega
        have EY2 := Lib.hid ey
        clear ex ey
        go_wp2_with (go_at_call 90; (try rw [n2]); refine CT.out.mono ?_; rintro e w4 ⟨hb, v4, rfl, hv4⟩; have R4 := Lib.hid (And.intro hv4 (And.intro (hcut.out.2.1.below hb) (hcut.out.2.2.trans (hb.mono hcut.out.2.2.size)))); clear hb hv4)
        go_meet
        exact Lib.hid ⟨R4.out.1, by rw [EY2.out]; exact R4.out.2.1, R4.out.2.2⟩
    case rest =>
      clear EX EY EX1 EY1
      have R0 : Hid (RT w wc u8 u9 X Y 61 0 X) := Lib.hid ⟨hcut.out.1, hcut.out.2.1, hcut.out.2.2, by omega, HQ.out, Nat.dvd_zero _, by decide⟩
      clear hcut
      go_wp2_with fail
      go_loopw [8, 10, 11] (fun v q i wx => ∃ (j qq x : Nat), j ≤ 61 ∧ i = .int .i64 ((j : Int) - 1) ∧ q = .int .u64 (qq : Nat) ∧ Hid (RT w wx v u9 X Y j qq x)) (fun _ _ i _ => (intOf i + 1).toNat)
      case atStart => exact ⟨61, 0, X, Nat.le_refl _, rfl, rfl, R0⟩
      case round =>
        obtain ⟨j, q, x, hj, rfl, rfl, hR⟩ := hrel
        clear R0
        by_cases h0 : 0 < j
        · obtain ⟨i, rfl⟩ : ∃ i, j = i + 1 := ⟨j - 1, by omega⟩
          have ei : (((i + 1 : Nat) : Int) - 1) = (i : Int) := by omega
          rw [ei]
          clear ei
          have i1 : (0 : Int) ≤ (i : Int) := by omega
          have i2 : (i : Int) ≤ 60 := by omega
          have HI : Hid (i ≤ 60) := Lib.hid (by omega)
          have LTi := Lib.hid (LT.out i HI.out)
          have CT := Lib.hid (fun (wx : World) v (h : NV wx v Y) => cTwos h (n := i) (L := 100) (by decide) LTi.out (by have := HI.out; omega))
          have xlt : Hid (x < BB ^ 100) := Lib.hid (by
            have h1 := hR.out.e
            have h2 := LX.out.1
            omega)
          have CC := Lib.hid (fun (wx : World) v u (h1 : NV wx v x) (h2 : NV wx u (Y * 2 ^ i)) => cCmp h1 h2 (L := 100) (by decide) xlt.out LTi.out)
          by_cases hge : Y * 2 ^ i ≤ x
          · have CL := Lib.hid (fun (wx : World) v u (h1 : NV wx v x) (h2 : NV wx u (Y * 2 ^ i)) => cLess h1 h2 (L := 100) (by decide) xlt.out hge)
            have HGE := Lib.hid hge
            have hmin : min i 64 = i := by omega
            have e2 := or_shl hR.out.d HI.out hR.out.q61
            clear hge h0 hj
            go_wp2_with (first
              | (go_at_call 89; refine (CT.out _ _ hR.out.ny).mono ?_; rintro e w4 ⟨hb, v4, rfl, hv4⟩; have R4 := Lib.hid (hR.out.below hb); have T4 := Lib.hid hv4; clear hb hv4)
              | (go_at_call 91; refine (CC.out _ _ _ R4.out.nx T4.out).mono ?_; rintro e w5 ⟨⟨r, rfl, hr⟩, n, rfl⟩; have g0 : (0 : Int) ≤ r := (by have := cmpR_sign hr; have := HGE.out; omega); have R5 := Lib.hid (R4.out.below (BdN (Below.refl _ _) n)); have T5 := Lib.hid (T4.out.drew n); clear hr)
              | (go_at_call 92; refine (CL.out _ _ _ R5.out.nx T5.out).mono ?_; rintro e w6 ⟨hb, v6, rfl, hv6⟩; have R6 := Lib.hid (R5.out.take HGE.out hb hv6 HQ.out); clear hb hv6))
            go_roundw
            case rel => exact ⟨i, q + 2 ^ i, _, by have := HI.out; omega, rfl, rfl, R6⟩
            case measure => simp [intOf] <;> omega
          · have HGE := Lib.hid (Nat.lt_of_not_le hge)
            clear hge h0 hj
            go_wp2_with (first
              | (go_at_call 89; refine (CT.out _ _ hR.out.ny).mono ?_; rintro e w4 ⟨hb, v4, rfl, hv4⟩; have R4 := Lib.hid (hR.out.below hb); have T4 := Lib.hid hv4; clear hb hv4)
              | (go_at_call 91; refine (CC.out _ _ _ R4.out.nx T4.out).mono ?_; rintro e w5 ⟨⟨r, rfl, hr⟩, n, rfl⟩; have g0 : ¬ (0 : Int) ≤ r := (by have := cmpR_sign hr; have := HGE.out; omega); have R5 := Lib.hid (R4.out.below (BdN (Below.refl _ _) n)); clear hr))
            go_roundw
            case rel => exact ⟨i, q, _, by have := HI.out; omega, rfl, rfl, Lib.hid (R5.out.skip HGE.out)⟩
            case measure => simp [intOf] <;> omega
        · obtain rfl : j = 0 := by omega
          have hx : x < Y := by have := hR.out.lt; rwa [Nat.pow_zero, Nat.one_mul] at this
          have hd : X / Y = q ∧ X % Y = x := by
            have e := hR.out.e
            rw [Nat.mul_comm] at e
            constructor
            · rw [e, Nat.mul_add_div (by omega), Nat.div_eq_of_lt hx, Nat.add_zero]
            · rw [e, Nat.mul_add_mod, Nat.mod_eq_of_lt hx]
          have HD := Lib.hid hd
          have xlt : Hid (x < BB ^ 100) := Lib.hid (by have := LX.out.2.1; omega)
          have xlt2 : Hid (x * 2 + 0 < BB ^ 101) := Lib.hid (by
            have h1 := xlt.out
            have e : BB ^ 101 = BB ^ 100 * BB := Nat.pow_succ ..
            rw [e]
            have h2 : BB ^ 100 * 2 ≤ BB ^ 100 * BB := Nat.mul_le_mul_left _ (by decide)
            omega)
          have ylt2 : Hid (Y < BB ^ 101) := Lib.hid (Nat.lt_of_lt_of_le LX.out.2.1 (Nat.pow_le_pow_right BB_pos (by decide)))
          have CM : Hid (∀ (wx : World) v, NV wx v x → Calls Tryz.prog 67 #[v, .int .u32 2, .int .u32 0] wx fun e w' => Below wx.heap.size wx w' ∧ ∃ v', e = .returned v' ∧ NV w' v' (x * 2 + 0) ∧ ∀ g, blk v' = some g → wx.heap.size ≤ g) := Lib.hid (fun wx v h => cTimes h (L := 100) (m := 2) (c := 0) (by decide) xlt.out (by decide) (by decide))
          have CC := Lib.hid (fun (wx : World) v u (h1 : NV wx v (x * 2 + 0)) (h2 : NV wx u Y) => cCmp h1 h2 (L := 101) (by decide) xlt2.out ylt2.out)
          have i1 : ¬ (0 : Int) ≤ ((0 : Nat) : Int) - 1 := by omega
          clear hd hx h0 hj
          go_wp2_with (first
            | (go_at_call 67; refine (CM.out _ _ hR.out.nx).mono ?_; rintro e w4 ⟨hb, v4, rfl, hv4, -⟩; have R4 := Lib.hid (hR.out.below hb); have T4 := Lib.hid hv4; clear hb hv4)
            | (go_at_call 91; refine (CC.out _ _ _ T4.out R4.out.ny).mono ?_; rintro e w5 ⟨⟨r, rfl, hr⟩, n, rfl⟩; have HR := Lib.hid hr; have R5 := Lib.hid (R4.out.below (BdN (Below.refl _ _) n)); clear hr))
          go_ret2
          exact ⟨⟨r, by rw [HD.out.1]; rfl, by rw [HD.out.2, Nat.mul_comm]; exact HR.out⟩, R5.out.l⟩
end Go.Proofs.YtjkifbkehochoaaGreatDoor.R

namespace Go.Proofs.YtjkifbkehochoaaGreatDoor.R
open Go.RowKit Fl

/-- value, the point on either side -/
theorem cValue {w : World} {v : Value} {x L : Nat} {e : Int} (hv : NV w v x) (hL : L ≤ 9000) (h1 : x * 10 ^ e.toNat < BB ^ L) (h2 : 10 ^ (-e).toNat < BB ^ L) (e1 : -1000 ≤ e) (e2 : e ≤ 1000) :
    Calls Tryz.prog 47 #[v, .int .i64 e] w fun x' w' => Below w.heap.size w w' ∧ ∃ va vb, x' = .returned (.agg #[va, vb]) ∧ NV w' va (x * 10 ^ e.toNat) ∧ NV w' vb (10 ^ (-e).toNat) := by
  rcases Int.lt_or_le e 0 with c | c
  · obtain ⟨n, rfl⟩ : ∃ n : Nat, e = -(n : Int) := ⟨(-e).toNat, by omega⟩
    rw [show (- -(n : Int)).toNat = n by omega] at h2 ⊢
    rw [show (-(n : Int)).toNat = 0 by omega, Nat.pow_zero, Nat.mul_one] at h1 ⊢
    exact cValueN hv hL h2 (by omega) (by omega)
  · obtain ⟨n, rfl⟩ : ∃ n : Nat, e = (n : Int) := ⟨e.toNat, by omega⟩
    rw [show ((n : Int)).toNat = n by omega] at h1 ⊢
    rw [show (-(n : Int)).toNat = 0 by omega, Nat.pow_zero] at h2 ⊢
    exact cValueP hv hL h1 (by omega)
def p0F (t : Nat) : Int := 3 + Int.tdiv (((t : Int) - 1074) * 30103) 100000
theorem p0_fin : ∀ t : Fin 2101, 2 ^ t.val * 10 ^ (-(p0F t.val)).toNat ≤ 10 ^ (p0F t.val).toNat * TK := by decide +kernel
theorem p0_bd : ∀ t : Fin 2101, -397 ≤ p0F t.val ∧ p0F t.val ≤ 400 := by decide +kernel
theorem p0_high {v t : Nat} (ht : t ≤ 2100) (hv : v < 2 ^ t) : le10 (p0F t) v = false := by
  have h := p0_fin ⟨t, by omega⟩
  have h' : 2 ^ t * 10 ^ (-(p0F t)).toNat ≤ 10 ^ (p0F t).toNat * TK := h
  rcases hb : le10 (p0F t) v with _ | _
  · rfl
  · exfalso
    have h2 := (le10_iff (p := p0F t) (v := v) (p0F t).toNat (-(p0F t)).toNat (by omega)).1 hb
    have h3 : v * 10 ^ (-(p0F t)).toNat < 2 ^ t * 10 ^ (-(p0F t)).toNat := Nat.mul_lt_mul_of_pos_right hv (ten_pos _)
    omega
theorem le10_cmp {e : Int} {v : Nat} : le10 e v = false ↔ v * 10 ^ (-e).toNat < 10 ^ e.toNat * 2 ^ K := by
  unfold le10
  rw [decide_eq_false_iff_not]
  show ¬ 10 ^ e.toNat * 2 ^ K ≤ _ ↔ _
  omega
theorem blen_half (x : Nat) (h : 0 < x) : blen x = blen (x / 2) + 1 := by
  by_cases h1 : x = 1
  · subst h1; decide
  · have h2 : 0 < x / 2 := by omega
    have a1 := blen_pos x h
    have a2 := blen_pos (x / 2) h2
    rw [Nat.log2_def x, if_pos (by omega)] at a1
    omega
set_option maxRecDepth 100000 in
set_option maxHeartbeats 4000000 in
theorem cPlace {b : Nat} (w : World) (h0 : 0 < b) (h1 : b < INF) :
    Calls Tryz.prog 45 #[.int .u64 b] w fun e w' => e = .returned (.int .i64 (placeF (V b))) ∧ Below w.heap.size w w' := by
  have hI : b < 9218868437227405312 := h1
  have CP := Lib.hid (fun w => cParts b w (by omega))
  have b1 := pE_le hI
  have bM := pM_lt b
  have v0 : 0 < V b := by have := V_lt h0; omega
  have vI : V b ≤ V INF := V_le (Nat.le_of_lt h1)
  have hp := place_is v0 vI
  have hr := hp.range v0 vI
  have vv : V b = pM b * 2 ^ pE b := val_parts b
  have CO1 : Hid (∀ w : World, Calls Tryz.prog 48 #[.int .u64 1] w fun e w' => Below w.heap.size w w' ∧ ∃ v', e = .returned v' ∧ NV w' v' 1 ∧ ∀ g, blk v' = some g → w.heap.size ≤ g) := Lib.hid (fun w => cOf 1 w (by decide))
  obtain ⟨m, hm⟩ : ∃ m, m = pM b := ⟨_, rfl⟩
  obtain ⟨E, hE⟩ : ∃ E, E = pE b := ⟨_, rfl⟩
  rw [← hm, ← hE] at CP vv
  rw [← hm] at bM
  rw [← hE] at b1
  generalize hv : V b = v at *
  have m0 : 0 < m := by
    rcases Nat.eq_zero_or_pos m with c | c
    · rw [c, Nat.zero_mul] at vv; omega
    · exact c
  have e53 : (2 : Nat) ^ 53 = 9007199254740992 := by decide
  have mlt := lt_blen m
  have bl53 : blen m ≤ 53 := by
    have hbp := blen_pos m m0
    have := (Nat.log2_lt (by omega : m ≠ 0) (k := 53)).2 bM
    omega
  obtain ⟨t, ht⟩ : ∃ t, t = E + blen m := ⟨_, rfl⟩
  have hvt : v < 2 ^ t := by
    rw [vv, ht, Nat.add_comm, Nat.pow_add]
    exact Nat.mul_lt_mul_of_pos_right mlt (Nat.two_pow_pos _)
  have hh := p0_high (t := t) (by omega) hvt
  have HH := Lib.hid hh
  have HP := Lib.hid hp
  have HV := Lib.hid vv
  obtain ⟨pp, hpp⟩ : ∃ pp, pp = placeF v := ⟨_, rfl⟩
  rw [← hpp] at HP hr ⊢
  have HT := Lib.hid ht
  have HB := Lib.hid bl53
  have EB := Lib.hid b1
  have mi : (m : Int) ≤ 9007199254740992 := by omega
  have Ei : (E : Int) ≤ 2045 := by omega
  obtain ⟨hr1, hr2⟩ := hr
  have AG : Hid (∀ (wx : World) (va vb : Value) (e : Int), -400 ≤ e → e ≤ 400 → NV wx va (1 * 10 ^ e.toNat) → NV wx vb (10 ^ (-e).toNat) → Calls Tryz.prog 88 #[.agg #[va, vb], .int .u64 m, .int .i64 ((E : Int) - 1074)] wx fun x w' => (∃ r, x = .returned (.int .i64 r) ∧ (0 < r ↔ le10 e v = false)) ∧ Below wx.heap.size wx w') := Lib.hid (fun wx va vb e e1 e2 ka kb => by
    have hz : ∀ n : Nat, n ≤ 400 → 10 ^ n < BB ^ 60 := fun n hn => lt_pow32 (a := 4 * n + 1) (Nat.lt_of_le_of_lt (ten_two n) (Nat.pow_lt_pow_right (by decide) (by omega))) (by omega)
    have h := agP ka kb (L := 60) (by decide) (by rw [Nat.one_mul]; exact hz _ (by omega)) (hz _ (by omega))
    refine (h wx m ((E : Int) - 1074) (Below.refl _ _) (by omega) (by omega) (by omega)).mono ?_
    rintro x w' ⟨⟨r, hx, hc⟩, hb⟩
    refine ⟨⟨r, hx, ?_⟩, hb⟩
    have hc2 := (cmpR_sign (cmp_rung (E := E) rfl hc)).2.2
    rw [hc2, Nat.one_mul, ← HV.out, le10_cmp])
  have CV := Lib.hid (fun (wx : World) (u : Value) (e : Int) (k : NV wx u 1) (e1 : -400 ≤ e) (e2 : e ≤ 400) => by
    have hz : ∀ n : Nat, n ≤ 400 → 10 ^ n < BB ^ 60 := fun n hn => lt_pow32 (a := 4 * n + 1) (Nat.lt_of_le_of_lt (ten_two n) (Nat.pow_lt_pow_right (by decide) (by omega))) (by omega)
    exact cValue k (L := 60) (e := e) (by decide) (by rw [Nat.one_mul]; exact hz _ (by omega)) (hz _ (by omega)) (by omega) (by omega))
  clear hm hE hv b1 bM h0 h1 hI v0 vI hp vv e53 mlt bl53 ht hvt hh hpp
  go_enter Tryz.func45, Tryz.ntmps45
  go_upto_block 0 with (go_at_call 87; refine (CP.out _).mono ?_; rintro e w' ⟨rfl, rfl⟩)
  go_cut [5] (fun u wx => u = .int .i64 ((t : Int) - 1074) ∧ wx = w)
  case first =>
    go_wp2_with fail
    go_loopw [5, 6] (fun u x wx => ∃ (c z : Nat), u = .int .i64 ((E : Int) + (c : Int) - 1074) ∧ x = .int .u64 (z : Nat) ∧ Hid (c + blen z = blen m ∧ z ≤ m) ∧ wx = w) (fun _ x _ => (intOf x).toNat)
    case atStart => exact ⟨0, m, by simp, rfl, Lib.hid ⟨Nat.zero_add _, Nat.le_refl _⟩, rfl⟩
    case round =>
      obtain ⟨c, z, rfl, rfl, hI, rfl⟩ := hrel
      have zi : (z : Int) ≤ 9007199254740992 := by have := hI.out.2; omega
      have ci : (c : Int) ≤ 53 := by have := hI.out.1; have := HB.out; omega
      by_cases hz : 0 < z
      · have hzi : (0 : Int) < (z : Int) := by omega
        have E1 : Hid (c + 1 + blen (z / 2) = blen m ∧ z / 2 ≤ m) := Lib.hid ⟨by have := blen_half z hz; have := hI.out.1; omega, by have := hI.out.2; omega⟩
        obtain ⟨y, hy⟩ : ∃ y, y = z / 2 := ⟨_, rfl⟩
        rw [← hy] at E1
        have zy : (z : Int) / 2 = (y : Int) := by omega
        have yz : Hid (y < z) := Lib.hid (by omega)
        clear hy hz
        go_wp2_with fail
        go_roundw
        case rel => exact ⟨c + 1, y, by go_num, rfl, E1, trivial⟩
        case measure => have := yz.out; simp [intOf] <;> omega
      · have hzi : ¬ (0 : Int) < (z : Int) := by omega
        have E2 : Hid ((E : Int) + (c : Int) - 1074 = (t : Int) - 1074) := Lib.hid (by
          have h1 := hI.out.1
          have h2 : z = 0 := by omega
          subst h2
          have h3 : blen 0 = 0 := rfl
          have := HT.out
          omega)
        clear hz
        go_wp2_with fail
        go_meet
        exact ⟨by rw [E2.out], rfl⟩
  case rest =>
    obtain ⟨rfl, rfl⟩ := hcut
    have ti : (t : Int) ≤ 2098 := by have := HT.out; have := HB.out; have := EB.out; omega
    obtain ⟨q0, hq0⟩ : ∃ q0, q0 = Int.tdiv (((t : Int) - 1074) * 30103) 100000 := ⟨_, rfl⟩
    have hq4 : p0F t = 3 + q0 := by rw [hq0]; rfl
    have hq5 := p0_bd ⟨t, by omega⟩
    have hq6 : -397 ≤ p0F t ∧ p0F t ≤ 400 := hq5
    have q1 : q0 ≤ 397 := by omega
    have q2 : -400 ≤ q0 := by omega
    have S0 : Hid (le10 (3 + q0) v = false) := Lib.hid (by rw [← hq4]; exact HH.out)
    clear hq4 hq5 hq6
    have hq3 : (((t : Int) - 1074) * 30103).tdiv 100000 = q0 := hq0.symm
    clear hq0
    go_wp2_with fail
    go_loopw [7] (fun u wx => ∃ p : Int, u = .int .i64 p ∧ p ≤ 400 ∧ Hid (le10 p v = false) ∧ Hid (Below wc.heap.size wc wx)) (fun u _ => (intOf u + 400).toNat)
    case atStart => exact ⟨3 + q0, rfl, by omega, S0, Lib.hid (Below.refl _ _)⟩
    case round =>
      obtain ⟨p, rfl, p2, hL, hB⟩ := hrel
      have p1 : pp ≤ p := by
        rcases Int.lt_or_le p pp with c | c
        · have := le10_anti (show p ≤ pp - 1 by omega) HP.out.1
          rw [hL.out] at this; cases this
        · exact c
      rcases hb : le10 (p - 1) v with _ | _
      · have HBF := Lib.hid hb
        clear hb
        go_wp2_with (first
          | (go_at_call 48; refine (CO1.out _).mono ?_; rintro e w2 ⟨hb, v1, rfl, hv1, -⟩; have B2 := Lib.hid (hB.out.trans (hb.mono hB.out.size)); have K1 := Lib.hid hv1; clear hb hv1)
          | (go_at_call 47; refine (CV.out _ _ (p - 1) K1.out (by omega) (by omega)).mono ?_; rintro e w3 ⟨hb, va, vb, rfl, hva, hvb⟩; have B3 := Lib.hid (B2.out.trans (hb.mono B2.out.size)); have KA := Lib.hid (And.intro hva hvb); clear hb hva hvb)
          | (go_at_call 88; refine (AG.out _ _ _ (p - 1) (by omega) (by omega) KA.out.1 KA.out.2).mono ?_; rintro e w4 ⟨⟨r, rfl, hr⟩, hb⟩; have g0 : (0 : Int) < r := hr.2 HBF.out; have B4 := Lib.hid (B3.out.trans (hb.mono B3.out.size)); clear hb hr))
        go_roundw
        case rel => exact ⟨p - 1, by go_num, by omega, HBF, B4⟩
        case measure => simp [intOf] <;> omega
      · have E : Hid (p = pp) := Lib.hid (IsP.unique ⟨hb, hL.out⟩ HP.out)
        have HBF := Lib.hid hb
        clear hb
        go_wp2_with (first
          | (go_at_call 48; refine (CO1.out _).mono ?_; rintro e w2 ⟨hb, v1, rfl, hv1, -⟩; have B2 := Lib.hid (hB.out.trans (hb.mono hB.out.size)); have K1 := Lib.hid hv1; clear hb hv1)
          | (go_at_call 47; refine (CV.out _ _ (p - 1) K1.out (by omega) (by omega)).mono ?_; rintro e w3 ⟨hb, va, vb, rfl, hva, hvb⟩; have B3 := Lib.hid (B2.out.trans (hb.mono B2.out.size)); have KA := Lib.hid (And.intro hva hvb); clear hb hva hvb)
          | (go_at_call 88; refine (AG.out _ _ _ (p - 1) (by omega) (by omega) KA.out.1 KA.out.2).mono ?_; rintro e w4 ⟨⟨r, rfl, hr⟩, hb⟩; have g0 : ¬ (0 : Int) < r := (fun h => by have := hr.1 h; rw [HBF.out] at this; cases this); have B4 := Lib.hid (B3.out.trans (hb.mono B3.out.size)); clear hb hr))
        go_ret
        exact ⟨by rw [E.out]; rfl, B4.out⟩
end Go.Proofs.YtjkifbkehochoaaGreatDoor.R
