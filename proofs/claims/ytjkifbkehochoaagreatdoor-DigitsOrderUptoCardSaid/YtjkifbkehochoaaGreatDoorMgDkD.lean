/- The walk of DigitsOrder, awake left open. The walk of DigitsOrder. -/
import Derived.Test.YtjkifbkehochoaaGreatDoorMgDkC
import Derived.Test.YtjkifbkehochoaaGreatDoorDiF
namespace Go.Proofs.YtjkifbkehochoaaGreatDoor
open Go.RowKit Fl

/-- the order of two words that are no less than nought -/
theorem ord_pos {x y : Nat} (hx : x ≤ INF) (hy : y ≤ INF) : FloatKind.f64.format.order x y = some (compare (x : Int) (y : Int)) := by
  have ux : U x := by unfold U; unfold INF at hx; omega
  have uy : U y := by unfold U; unfold INF at hy; omega
  have e : ∀ z, z ≤ INF → rg z = z ∧ sg z = false ∧ isN z = false := fun z hz => by
    have h1 : rg z = z := Nat.mod_eq_of_lt (by unfold INF at hz; omega)
    refine ⟨h1, ?_, ?_⟩
    · unfold sg; exact decide_eq_false (by unfold INF at hz; omega)
    · unfold isN; rw [h1]; exact decide_eq_false (by omega)
  rw [f64_order x y ux uy, (e x hx).2.2, (e y hy).2.2]
  unfold skey
  rw [(e x hx).2.1, (e y hy).2.1, (e x hx).1, (e y hy).1]
  rfl
theorem ord_gt {x y : Nat} (hx : x ≤ INF) (hy : y ≤ INF) (h : x ≤ y) : (FloatKind.f64.format.order x y == some Ordering.gt) = false := by
  rw [ord_pos hx hy, compare_int]
  rcases Nat.lt_or_eq_of_le h with c | c
  · rw [if_pos (by omega)]; rfl
  · rw [if_neg (by omega), if_pos (by omega)]; rfl
theorem ord_lt {x y : Nat} (hx : x ≤ INF) (hy : y ≤ INF) (h : y ≤ x) : (FloatKind.f64.format.order x y == some Ordering.lt) = false := by
  rw [ord_pos hx hy, compare_int]
  rcases Nat.lt_or_eq_of_le h with c | c
  · rw [if_neg (by omega), if_neg (by omega)]; rfl
  · rw [if_neg (by omega), if_pos (by omega)]; rfl
theorem ord_ne {x : Nat} (hx : x ≤ INF) : (FloatKind.f64.format.order x x != some Ordering.eq) = false := by
  rw [ord_pos hx hx, compare_int, if_neg (by omega), if_pos rfl]; rfl
theorem xor63 (x : Nat) (h : x < 9223372036854775808) : bits .xor .u64 (x : Int) 9223372036854775808 = ((x + 9223372036854775808 : Nat) : Int) := by
  rw [show (9223372036854775808 : Int) = ((9223372036854775808 : Nat) : Int) from rfl, u64_xor_nat _ _ (by omega) (by decide)]
  congr 1
  rw [Nat.xor_comm]
  have h1 : 9223372036854775808 ^^^ x = 9223372036854775808 ||| x := by
    apply Nat.eq_of_testBit_eq
    intro i
    rw [Nat.testBit_xor, Nat.testBit_or]
    by_cases hi : i = 63
    · subst hi
      rw [Nat.testBit_lt_two_pow (show x < 2 ^ 63 from h)]; simp
    · rw [show (9223372036854775808 : Nat) = 2 ^ 63 from rfl, Nat.testBit_two_pow_of_ne (fun e => hi e.symm)]; simp
  have := Nat.two_pow_add_eq_or_of_lt (show x < 2 ^ 63 from h) 1
  rw [Nat.mul_one] at this
  rw [h1, Nat.add_comm]
  exact this.symm
/-- the cells of the argument's own copy -/
structure RB (w wx : World) (A B : ByteArray) (p z : Int) : Prop where
  c0 : wx.cell? ⟨w.heap.size, 0, none⟩ = some (.string A)
  c1 : wx.cell? ⟨w.heap.size, 1, none⟩ = some (.string B)
  c2 : wx.cell? ⟨w.heap.size, 2, none⟩ = some (.int .i64 p)
  c3 : wx.cell? ⟨w.heap.size, 3, none⟩ = some (.int .i64 z)
  lt : w.heap.size < wx.heap.size
  l : Below w.heap.size w wx
theorem RB.below {w wx wy : World} {A B : ByteArray} {p z : Int} (h : RB w wx A B p z) (k : Below wx.heap.size wx wy) : RB w wy A B p z :=
  ⟨(k.cell (p := ⟨w.heap.size, 0, none⟩) h.lt).trans h.c0, (k.cell (p := ⟨w.heap.size, 1, none⟩) h.lt).trans h.c1, (k.cell (p := ⟨w.heap.size, 2, none⟩) h.lt).trans h.c2, (k.cell (p := ⟨w.heap.size, 3, none⟩) h.lt).trans h.c3, Nat.lt_of_lt_of_le h.lt k.size, h.l.trans (k.mono h.l.size)⟩
theorem RB.mk0 (w : World) (A B : ByteArray) (p z : Int) (t : TypeId) : RB w (w.alloc (.cells #[.string A, .string B, .int .i64 p, .int .i64 z] t)) A B p z :=
  ⟨by simp [go_sem], by simp [go_sem], by simp [go_sem], by simp [go_sem], by simp, (Below.refl _ _).alloc (Nat.le_refl _) _⟩
theorem rep_succ (l : List Nat) (n : Nat) : (l ++ List.replicate n 48) ++ [48] = l ++ List.replicate (n + 1) 48 := by rw [List.append_assoc, List.replicate_succ']
theorem okD_DG {l : List Nat} (h : DG l) (h0 : l ≠ []) : okD l = true := decide_eq_true ⟨h0, by
  have := runD_app (b := []) h
  rw [List.append_nil] at this
  exact this⟩
end Go.Proofs.YtjkifbkehochoaaGreatDoor

namespace Go.Proofs.YtjkifbkehochoaaGreatDoor
open Go.RowKit Fl

set_option maxRecDepth 100000 in
set_option maxHeartbeats 4000000 in
theorem walkOrder0 (W : World) (haw : ∀ w, Below W.heap.size W w → Calls Tryz.prog 9 #[] w fun e w' => e = .returned (.bool true) ∧ Below w.heap.size w w') (A B : ByteArray) (p z : Int) (ha : A.size ≤ 281474976710656) (hb : B.size ≤ 281474976710656) (hp : -9223372036854775808 ≤ p ∧ p ≤ 9223372036854775807) (hz : -9223372036854775808 ≤ z ∧ z ≤ 9223372036854775807) :
    Calls Tryz.prog 8 #[.agg #[.string A, .string B, .int .i64 p, .int .i64 z]] W fun e w' => e = .returned (.bool true) ∧ Below W.heap.size W w' := by
  have N0 := Lib.hid (RB.mk0 W A B p z 47)
  have haw := Lib.hid haw
  obtain ⟨p1, p2⟩ := hp
  obtain ⟨z1, z2⟩ := hz
  have C24a := Lib.hid (fun w => rDigits A w (by omega))
  have C24b := Lib.hid (fun w => rDigits B w (by omega))
  have C19a := Lib.hid (fun w => lNear A p w (by omega) ⟨p1, p2⟩)
  have C19b := Lib.hid (fun w => lNear B p w (by omega) ⟨p1, p2⟩)
  have HS := Lib.hid (And.intro ha hb)
  have A1 : (A.size : Int) ≤ 281474976710656 := by omega
  by_cases hk : okD (bl A) = true ∧ okD (bl B) = true
  · obtain ⟨k1, k2⟩ := hk
    have ga := okD_true k1
    have gb := okD_true k2
    have DA := runD_all ga.2
    have DB := runD_all gb.2
    have e1 : nrW (bl A) p = readF (bl A) p := by unfold nrW; rw [if_pos k1]
    have e2 : nrW (bl B) p = readF (bl B) p := by unfold nrW; rw [if_pos k2]
    have e3 : nrK (bl A) = 0 := by unfold nrK; rw [if_pos k1]
    have e4 : nrK (bl B) = 0 := by unfold nrK; rw [if_pos k2]
    rw [k1] at C24a
    rw [k2] at C24b
    rw [e1, e3] at C19a
    rw [e2, e4] at C19b
    have hst := stands_read DA DB p
    have C25 := Lib.hid (fun w => cStands A B w (by omega) (by omega))
    have la := readF_le (bl A) p
    have lb := readF_le (bl B) p
    have CW : Hid (∀ (n : Nat) (s : ByteArray) (w : World), n ≤ 2000 → bl s = bl A ++ List.replicate n 48 → Calls Tryz.prog 19 #[.string s, .int .i64 p] w fun e w' => e = .returned (.tuple #[.float .f64 (readF (bl A) p), .int .i64 0]) ∧ Below w.heap.size w w') := Lib.hid (fun n s w hn h => by
      have hs : s.size ≤ 562949953421312 := by
        rw [← bl_len, h, List.length_append, List.length_replicate, bl_len]; omega
      have hd : DG (bl s) := by
        rw [h]
        intro x hx
        rcases List.mem_append.1 hx with hx | hx
        · exact DA x hx
        · have := List.eq_of_mem_replicate hx; omega
      have ho : okD (bl s) = true := okD_DG hd (by rw [h]; intro e; exact ga.1 (List.append_eq_nil_iff.1 e).1)
      have := lNear s p w hs ⟨p1, p2⟩
      unfold nrW nrK at this
      rw [if_pos ho, if_pos ho, h, read_behind] at this
      exact this)
    have CH : Hid (∀ (n : Nat) (s : ByteArray) (w : World), n ≤ 2000 → p < 4611686018427387904 → bl s = List.replicate n 48 ++ bl A → Calls Tryz.prog 19 #[.string s, .int .i64 (p + n)] w fun e w' => e = .returned (.tuple #[.float .f64 (readF (bl A) p), .int .i64 0]) ∧ Below w.heap.size w w') := Lib.hid (fun n s w hn hp h => by
      have hs : s.size ≤ 562949953421312 := by
        rw [← bl_len, h, List.length_append, List.length_replicate, bl_len]; omega
      have hd : DG (bl s) := by
        rw [h]
        intro x hx
        rcases List.mem_append.1 hx with hx | hx
        · have := List.eq_of_mem_replicate hx; omega
        · exact DA x hx
      have ho : okD (bl s) = true := okD_DG hd (by rw [h]; intro e; exact ga.1 (List.append_eq_nil_iff.1 e).2)
      have := lNear s (p + n) w hs (by omega)
      unfold nrW nrK at this
      rw [if_pos ho, if_pos ho, h, read_ahead] at this
      exact this)
    have b1 : bl (A ++ ⟨#[101, 49]⟩) = bl A ++ [101, 49] := by rw [bl_append]; rfl
    have b2 : bl (⟨#[45]⟩ ++ A ++ ⟨#[101, 49]⟩) = 45 :: (bl A ++ [101, 49]) := by rw [bl_append, bl_append]; rfl
    have C10a := Lib.hid (fun w => lParse (A ++ ⟨#[101, 49]⟩) w (by rw [← bl_len, b1, List.length_append, bl_len]; simp; omega))
    have C10b := Lib.hid (fun w => lParse (⟨#[45]⟩ ++ A ++ ⟨#[101, 49]⟩) w (by rw [← bl_len, b2, List.length_cons, List.length_append, bl_len]; simp; omega))
    obtain ⟨pw1, pn1, pe1⟩ := parse_plain DA ga.1
    obtain ⟨pw2, pn2, pe2⟩ := parse_minus DA ga.1
    rw [b1, pw1, pn1, pe1] at C10a
    rw [b2, pw2, pn2, pe2] at C10b
    have ly := readF_le (bl A) (bl A).length.succ
    rw [show (((bl A).length.succ : Nat) : Int) = (bl A).length + 1 from rfl] at ly
    obtain ⟨y, hy⟩ : ∃ y, y = readF (bl A) ((bl A).length + 1) := ⟨_, rfl⟩
    rw [← hy] at C10a C10b ly
    have x1 := xor63 y (by unfold INF at ly; omega)
    have uy : U y := by unfold U; unfold INF at ly; omega
    have uy2 : U (y + 9223372036854775808) := by unfold U; unfold INF at ly; omega
    obtain ⟨L, hL⟩ : ∃ L, L = (bl A).length := ⟨_, rfl⟩
    have L1 : (L : Int) ≤ 281474976710656 := by rw [hL, bl_len]; omega
    rw [← hL] at C10a C10b
    obtain ⟨L2, hL2⟩ : ∃ L2, L2 = L + 2 := ⟨_, rfl⟩
    obtain ⟨L3, hL3⟩ : ∃ L3, L3 = L + 3 := ⟨_, rfl⟩
    rw [← hL2] at C10a
    rw [← hL3] at C10b
    have l23 : (L2 : Int) + 1 = (L3 : Int) := by omega
    have l2 : (L2 : Int) ≤ 281474976710658 := by omega
    obtain ⟨a, ha2⟩ : ∃ a, a = readF (bl A) p := ⟨_, rfl⟩
    obtain ⟨b, hb2⟩ : ∃ b, b = readF (bl B) p := ⟨_, rfl⟩
    rw [← ha2] at C19a CW CH la hst
    rw [← hb2] at C19b lb hst
    obtain ⟨st, hst2⟩ : ∃ st, st = stF (bl A) (bl B) := ⟨_, rfl⟩
    rw [← hst2] at C25 hst
    obtain ⟨n, hn⟩ : ∃ n : Nat, n = min (max 0 z).toNat 2000 := ⟨_, rfl⟩
    obtain ⟨z3, hz3⟩ : ∃ z3, z3 = max (0 : Int) z := ⟨_, rfl⟩
    have mx : max (0 : Int) z = z3 := hz3.symm
    have mn : min z3 2000 = (n : Int) := by omega
    have n2 : (n : Int) ≤ 2000 := by omega
    have N2 : Hid (n ≤ 2000) := Lib.hid (by omega)
    have ne1 := ord_ne la
    have LA := Lib.hid la
    have LB := Lib.hid lb
    have DAH := Lib.hid DA
    clear e1 e2 e3 e4 k1 k2 ga gb DA DB ha hb b1 b2 pw1 pn1 pe1 pw2 pn2 pe2 ly hy hL hL2 hL3 ha2 hb2 hst2 hn hz3 la lb
    go_enter Tryz.func8, Tryz.ntmps8
    go_upto_region 1 with fail
    refine wp_gen' (fun wx => Hid (RB W wx A B p z)) N0 ?_
    intro w0 h0
    clear N0
    obtain ⟨q0, q1, q2, q3, q4, q5⟩ := h0.out
    have J := Lib.hid q5
    clear q4 q5
    go_upto_region 8 with (first
      | (go_at_call 9; refine (haw.out _ J.out).mono ?_; rintro e w1 ⟨rfl, hb⟩; replace h0 := Lib.hid (h0.out.below hb); clear q0 q1 q2 q3 J hb; obtain ⟨q0, q1, q2, q3, -, -⟩ := h0.out)
      | (go_at_call 24; with_reducible refine (C24a.out _).mono ?_; rintro e w2 ⟨rfl, rfl⟩)
      | (go_at_call 24; with_reducible refine (C24b.out _).mono ?_; rintro e w2 ⟨rfl, rfl⟩))
    clear haw C24a C24b
    go_upto_region 13 with (first
      | (go_at_call 19; with_reducible refine (C19a.out _).mono ?_; rintro e w3 ⟨rfl, hb⟩; replace h0 := Lib.hid (h0.out.below hb); clear q0 q1 q2 q3 hb; obtain ⟨q0, q1, q2, q3, -, -⟩ := h0.out)
      | (go_at_call 19; with_reducible refine (C19b.out _).mono ?_; rintro e w3 ⟨rfl, hb⟩; replace h0 := Lib.hid (h0.out.below hb); clear q0 q1 q2 q3 hb; obtain ⟨q0, q1, q2, q3, -, -⟩ := h0.out)
      | (go_at_call 25; refine (C25.out _).mono ?_; rintro e w4 ⟨rfl, rfl⟩))
    clear C19b C25
    go_cut [125] (fun u wx => u = .bool false ∧ wx = w3)
    case first =>
      rcases hst with ⟨e, h⟩ | ⟨e, h⟩ | ⟨e, h⟩
      · subst e
        have g1 := ord_gt LA.out LB.out h
        go_wp2_with fail
        go_meet
        exact ⟨rfl, rfl⟩
      · subst e
        have g1 := ord_lt LA.out LB.out h
        go_wp2_with fail
        go_meet
        exact ⟨rfl, rfl⟩
      · subst e
        subst h
        go_wp2_with fail
        go_meet
        exact ⟨rfl, rfl⟩
    case rest =>
      obtain ⟨rfl, rfl⟩ := hcut
      clear hst
      go_upto_region 18 with fail
      go_loopw [16, 17] (fun s i wx => ∃ (k : Nat) (t : ByteArray), i = .int .i64 k ∧ s = .string t ∧ Hid (k ≤ n ∧ bl t = bl A ++ List.replicate k 48) ∧ wx = wc) (fun _ i _ => n - (intOf i).toNat)
      case atStart => exact ⟨0, A, rfl, rfl, Lib.hid ⟨Nat.zero_le _, by rw [List.replicate_zero, List.append_nil]⟩, rfl⟩
      case round =>
        obtain ⟨k, t, rfl, rfl, hI, rfl⟩ := hrel
        have k1 : (k : Int) ≤ 2000 := by have := hI.out.1; omega
        have ts : (t.size : Int) ≤ 281474976712656 := by
          have h := congrArg List.length hI.out.2
          rw [bl_len, List.length_append, List.length_replicate, bl_len] at h
          omega
        by_cases hlt : k < n
        · have hki : (k : Int) < (n : Int) := by omega
          have E : Hid (k + 1 ≤ n ∧ bl (t ++ ⟨#[48]⟩) = bl A ++ List.replicate (k + 1) 48) := Lib.hid ⟨hlt, by rw [bl_append, hI.out.2]; exact rep_succ _ _⟩
          have HLT := Lib.hid hlt
          clear hlt
          go_wp2_with fail
          go_roundw
          case rel => exact ⟨k + 1, _, by go_num, rfl, E, trivial⟩
          case measure => have := HLT.out; simp [intOf]; omega
        · have hki : ¬ (k : Int) < (n : Int) := by omega
          have E : Hid (bl t = bl A ++ List.replicate n 48) := Lib.hid (by rw [hI.out.2, show k = n by have := hI.out.1; omega])
          clear hlt hI
          go_upto_region 24 with (go_at_call 19; with_reducible refine (CW.out n t _ N2.out E.out).mono ?_; rintro e w5 ⟨rfl, hb⟩; replace h0 := Lib.hid (h0.out.below hb); clear q0 q1 q2 q3 hb; obtain ⟨q0, q1, q2, q3, -, -⟩ := h0.out)
          clear CW
          go_upto_if 155 with fail
          go_cut [18] (fun u wx => Hid (RB W wx A B p z))
          case first =>
            by_cases hp62 : p < 4611686018427387904
            · have CC := Lib.hid (fun s w h => CH.out n s w N2.out hp62 h)
              go_upto_region 27 with fail
              go_loopw [20, 21] (fun s i wx => ∃ (k : Nat) (t : ByteArray), i = .int .i64 k ∧ s = .string t ∧ Hid (k ≤ n ∧ bl t = List.replicate k 48 ++ bl A) ∧ wx = w5) (fun _ i _ => n - (intOf i).toNat)
              case atStart => exact ⟨0, A, rfl, rfl, Lib.hid ⟨Nat.zero_le _, rfl⟩, rfl⟩
              case round =>
                obtain ⟨k, t, rfl, rfl, hI, rfl⟩ := hrel
                have k1 : (k : Int) ≤ 2000 := by have := hI.out.1; omega
                have ts : (t.size : Int) ≤ 281474976712656 := by
                  have h := congrArg List.length hI.out.2
                  rw [bl_len, List.length_append, List.length_replicate, bl_len] at h
                  omega
                by_cases hlt : k < n
                · have hki : (k : Int) < (n : Int) := by omega
                  have E : Hid (k + 1 ≤ n ∧ bl (⟨#[48]⟩ ++ t) = List.replicate (k + 1) 48 ++ bl A) := Lib.hid ⟨hlt, by rw [bl_append, hI.out.2, List.replicate_succ]; rfl⟩
                  have HLT := Lib.hid hlt
                  clear hlt
                  go_wp2_with fail
                  go_roundw
                  case rel => exact ⟨k + 1, _, by go_num, rfl, E, trivial⟩
                  case measure => have := HLT.out; simp [intOf]; omega
                · have hki : ¬ (k : Int) < (n : Int) := by omega
                  have E : Hid (bl t = List.replicate n 48 ++ bl A) := Lib.hid (by rw [hI.out.2, show k = n by have := hI.out.1; omega])
                  clear hlt hI
                  go_wp2_with (go_at_call 19; with_reducible refine (CC.out t _ E.out).mono ?_; rintro e w7 ⟨rfl, hb⟩; replace h0 := Lib.hid (h0.out.below hb); clear q0 q1 q2 q3 hb; obtain ⟨q0, q1, q2, q3, -, -⟩ := h0.out)
                  go_meet
                  exact h0
            · go_wp2_with fail
              go_meet
              exact h0
          case rest =>
            replace h0 := hcut
            clear hcut q0 q1 q2 q3
            obtain ⟨q0, q1, q2, q3, -, -⟩ := h0.out
            go_wp2_with (first
              | (go_at_call 10; with_reducible refine (C10a.out _).mono ?_; rintro e w6 ⟨rfl, hb⟩; replace h0 := Lib.hid (h0.out.below hb); clear q0 q1 q2 q3 hb; obtain ⟨q0, q1, q2, q3, -, -⟩ := h0.out)
              | (go_at_call 10; with_reducible refine (C10b.out _).mono ?_; rintro e w6 ⟨rfl, hb⟩; replace h0 := Lib.hid (h0.out.below hb); clear q0 q1 q2 q3 hb; obtain ⟨q0, q1, q2, q3, -, -⟩ := h0.out))
            go_ret
            exact ⟨rfl, h0.out.l⟩
  · have e3 : nrK (bl A) = if okD (bl A) = true then 0 else 1 := rfl
    have e4 : nrK (bl B) = if okD (bl B) = true then 0 else 1 := rfl
    rw [e3] at C19a
    rw [e4] at C19b
    generalize nrW (bl A) p = a at *
    generalize nrW (bl B) p = b at *
    generalize okD (bl A) = f at *
    generalize okD (bl B) = g at *
    clear e3 e4 ha hb HS
    cases f <;> cases g
    case true.true => exact absurd ⟨rfl, rfl⟩ hk
    all_goals
      clear hk
      simp only [Bool.false_eq_true, if_false, if_true] at C19a C19b
      go_enter Tryz.func8, Tryz.ntmps8
      go_upto_region 1 with fail
      refine wp_gen' (fun wx => Hid (RB W wx A B p z)) N0 ?_
      intro w0 h0
      clear N0
      obtain ⟨q0, q1, q2, q3, q4, q5⟩ := h0.out
      have J := Lib.hid q5
      clear q4 q5
      go_wp2_with (first
        | (go_at_call 9; refine (haw.out _ J.out).mono ?_; rintro e w1 ⟨rfl, hb⟩; replace h0 := Lib.hid (h0.out.below hb); clear q0 q1 q2 q3 J hb; obtain ⟨q0, q1, q2, q3, -, -⟩ := h0.out)
        | (go_at_call 24; with_reducible refine (C24a.out _).mono ?_; rintro e w2 ⟨rfl, rfl⟩)
        | (go_at_call 24; with_reducible refine (C24b.out _).mono ?_; rintro e w2 ⟨rfl, rfl⟩)
        | (go_at_call 19; with_reducible refine (C19a.out _).mono ?_; rintro e w3 ⟨rfl, hb⟩; replace h0 := Lib.hid (h0.out.below hb); clear q0 q1 q2 q3 hb; obtain ⟨q0, q1, q2, q3, -, -⟩ := h0.out)
        | (go_at_call 19; with_reducible refine (C19b.out _).mono ?_; rintro e w3 ⟨rfl, hb⟩; replace h0 := Lib.hid (h0.out.below hb); clear q0 q1 q2 q3 hb; obtain ⟨q0, q1, q2, q3, -, -⟩ := h0.out))
      go_ret
      exact ⟨rfl, h0.out.l⟩
end Go.Proofs.YtjkifbkehochoaaGreatDoor
