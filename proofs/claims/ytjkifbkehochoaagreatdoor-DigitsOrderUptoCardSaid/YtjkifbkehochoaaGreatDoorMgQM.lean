/- galleyref03.times. galleyref03.plus (printed by gen_qp.py). -/
import Derived.Test.YtjkifbkehochoaaGreatDoorMgDhK
import Derived.Test.YtjkifbkehochoaaGreatDoorMgLgE
namespace Go.Proofs.YtjkifbkehochoaaGreatDoor.R
open Go.RowKit Fl

theorem len_small {l : List Nat} (h : W64 l) (hc : Can l) {n : Nat} (hn : val l < BB ^ n) : l.length ≤ n := by
  rcases Nat.lt_or_ge n l.length with c | c
  · exfalso
    have h1 := val_ge hc (by omega)
    have h2 : BB ^ n ≤ BB ^ (l.length - 1) := Nat.pow_le_pow_right BB_pos (by omega)
    omega
  · exact c
theorem BB_pow (m : Nat) : BB ^ m = 2 ^ (32 * m) := by rw [Nat.pow_mul]; rfl
theorem u32_wrap (n : Nat) : IntKind.u32.wrap (n : Int) = ((n % BB : Nat) : Int) := by
  have e : IntKind.u32.wrap (n : Int) = (n : Int) % 4294967296 := rfl
  rw [e]; unfold BB; omega
theorem mul_small {x m c : Nat} (hx : x < BB) (hm : m < BB) (hc : c < BB) : x * m + c ≤ 18446744073709551615 := by
  unfold BB at *
  have h1 : x * m ≤ 4294967295 * 4294967295 := Nat.mul_le_mul (by omega) (by omega)
  omega
theorem u64_small {n : Nat} (h : n < BB) : IntKind.u64.wrap (n : Int) = (n : Int) := by
  unfold BB at h
  rw [IntKind.wrap_u64]; omega
set_option maxRecDepth 100000 in
set_option maxHeartbeats 2000000 in
theorem cTimesL {w : World} {v : Value} {a : List Nat} {m c0 : Nat} (na : NL w v a) (hm : m < BB) (hc0 : c0 < BB) (hl : a.length ≤ 10000) :
    Calls Tryz.prog 67 #[v, .int .u32 m, .int .u32 c0] w fun e w' => Below w.heap.size w w' ∧ ∃ v', e = .returned v' ∧ NV w' v' (val a * m + c0) ∧ ∀ g, blk v' = some g → w.heap.size ≤ g := by
  have la2 : (a.length : Int) ≤ 10000 := by omega
  have HW := Lib.hid na.1
  have HV := Lib.hid (And.intro hm hc0)
  have NA' := Lib.hid na
  have V1 := Lib.hid (tm_val (a := a) (m := m) (c0 := c0))
  obtain ⟨A, ac, rfl⟩ := na.form
  have em : madeCells #[Value.int .u32 0] 0 = #[] := by unfold madeCells; simp
  have O0 := OU.made w (p := 0) (q := 0) (by omega) (by unfold maxLen; omega) (B := w.heap.size) (Nat.le_refl _)
  rw [em] at O0
  have O0 := Lib.hid O0
  have B0 : Hid (Below w.heap.size w (w.alloc (.cells #[] 106))) := Lib.hid ((Below.refl _ _).alloc (Nat.le_refl _) _)
  have w0 := u64_small hc0
  have wm := u64_small hm
  clear na hm hc0 hl em
  go_enter Tryz.func67, Tryz.ntmps67
  go_upto_region 2 with fail
  generalize w.alloc (.cells #[] 106) = w1 at *
  generalize (Value.slice (some ⟨w.heap.size, 0, none⟩) 0 0) = v1 at *
  go_wp2_with fail
  go_loopw [7, 8, 9] (fun v c i wx => ∃ k : Nat, k ≤ a.length ∧ i = .int .i64 k ∧ c = .int .u64 ((crw (tmF a m) c0 k).2 : Nat) ∧ Hid (OU wx w.heap.size v (crw (tmF a m) c0 k).1) ∧ Hid (Below w.heap.size w wx)) (fun _ _ i _ => a.length - (intOf i).toNat)
  case atStart => exact ⟨0, Nat.zero_le _, rfl, rfl, O0, B0⟩
  case round =>
    obtain ⟨k, hk, rfl, rfl, hO, hB⟩ := hrel
    by_cases hlt : k < a.length
    · have hki : (k : Int) < (a.length : Int) := by omega
      obtain ⟨b1, o1, c1, e1, q1, q2, hA⟩ := (NA'.out.below hB.out).addr (by omega)
      cases e1
      obtain ⟨x, hx⟩ : ∃ x, a[k]? = some x := ⟨a[k], List.getElem?_eq_getElem hlt⟩
      have kc := hA.2 k x hx
      have hgd : a.getD k 0 = x := by rw [List.getD, hx]; rfl
      have hxB : x < BB := HW.out x (List.mem_of_getElem? hx)
      have hcl := tm_carry HW.out HV.out.1 HV.out.2 k
      have HLT := Lib.hid hlt
      have L1 : Hid ((crw (tmF a m) c0 k).1.length ≤ 1000000) := Lib.hid (by rw [cr_len]; omega)
      have E1 : Hid ((crw (tmF a m) c0 (k + 1)).1 = (crw (tmF a m) c0 k).1 ++ [(x * m + (crw (tmF a m) c0 k).2) % BB]) := Lib.hid (by rw [crw, tmF, hgd])
      have E2 : Hid ((crw (tmF a m) c0 (k + 1)).2 = (x * m + (crw (tmF a m) c0 k).2) / BB) := Lib.hid (by rw [crw, tmF, hgd])
      obtain ⟨lo, hlo⟩ : ∃ lo, lo = (crw (tmF a m) c0 k).2 := ⟨_, rfl⟩
      rw [← hlo] at hcl E1 E2 ⊢
      have hp := mul_small hxB HV.out.1 hcl
      obtain ⟨p, hpp⟩ : ∃ p, p = x * m + lo := ⟨_, rfl⟩
      rw [← hpp] at hp E1 E2
      have w1 : IntKind.u64.wrap ((x : Int) * (m : Int)) = ((x * m : Nat) : Int) := by
        rw [show (x : Int) * (m : Int) = ((x * m : Nat) : Int) from by push_cast; rfl, u64_wrap, Nat.mod_eq_of_lt (by unfold Go.Proofs.YtjkifbkehochoaaGreatDoor.BB; omega)]
      have w2 : IntKind.u64.wrap ((lo : Int) + (x : Int) * (m : Int)) = (p : Int) := by
        rw [show (lo : Int) + (x : Int) * (m : Int) = (p : Int) from by rw [hpp]; push_cast; omega, u64_wrap, Nat.mod_eq_of_lt (by unfold Go.Proofs.YtjkifbkehochoaaGreatDoor.BB; omega)]
      have w3 := u32_wrap p
      have wx := u64_small hxB
      obtain ⟨d, hd⟩ : ∃ d, d = p % BB := ⟨_, rfl⟩
      obtain ⟨c2, hc2⟩ : ∃ c2, c2 = p / BB := ⟨_, rfl⟩
      rw [← hd] at E1 w3
      rw [← hc2] at E2
      have w4 : (p : Int) / 4294967296 = (c2 : Int) := by rw [hc2]; unfold BB; omega
      clear hx hgd hcl hlo hlt hd hc2 hA q1 q2 hxB hpp hp
      go_wp2_with (at_builtin; refine wpList_app rfl (.tmp 29) (.tmp 32) rfl w.heap.size _ _ _ rfl hO.out rfl L1.out hB.out.size ?_; intro v' w' own' bel' siz'; replace own' := Lib.hid own'; replace bel' := Lib.hid bel'; clear siz')
      go_roundw
      case rel => exact ⟨k + 1, by have := HLT.out; omega, by go_num, by rw [E2.out], Lib.hid (by rw [E1.out]; exact own'.out), Lib.hid (bel'.out w (Nat.le_refl _) hB.out)⟩
      case measure => have := HLT.out; simp [intOf]; omega
    · have hki : ¬ (k : Int) < (a.length : Int) := by omega
      have hkl : k = a.length := by omega
      subst hkl
      have L1 : Hid ((crw (tmF a m) c0 a.length).1.length ≤ 1000000) := Lib.hid (by rw [cr_len]; omega)
      have hcl := tm_carry HW.out HV.out.1 HV.out.2 a.length
      have W1 : Hid (W64 ((crw (tmF a m) c0 a.length).1 ++ [(crw (tmF a m) c0 a.length).2])) := Lib.hid ((cr_w64 (fun k c => Nat.mod_lt _ BB_pos) _).append fun z hz => by
        rw [List.mem_singleton.1 hz]
        exact hcl)
      have w3 : IntKind.u32.wrap (((crw (tmF a m) c0 a.length).2 : Nat) : Int) = (((crw (tmF a m) c0 a.length).2 : Nat) : Int) := by rw [u32_wrap, Nat.mod_eq_of_lt hcl]
      clear hlt hcl
      go_wp2_with (at_builtin; refine wpList_app rfl (.tmp 36) (.tmp 39) rfl w.heap.size _ _ _ rfl hO.out rfl L1.out hB.out.size ?_; intro v' w' own' bel' siz'; replace own' := Lib.hid own'; replace bel' := Lib.hid bel'; clear siz')
      refine (cTrim (own'.out.nl W1.out)).mono ?_
      rintro e w2 ⟨rfl, v2, rfl, hv2, hg2⟩
      have HG2 := Lib.hid (fun g hg => own'.out.blk (hg2 g hg))
      have R2 : Hid (NV w' v2 (val a * m + c0)) := Lib.hid ⟨_, hv2, tn_can _ (Nat.le_refl _), by rw [tn_val _ (Nat.le_refl _), List.take_length, V1.out]⟩
      clear hv2 hg2
      go_wp2_with fail
      go_ret
      exact ⟨bel'.out w (Nat.le_refl _) hB.out, _, rfl, R2.out, HG2.out⟩
/-- a number and how many words it may have -/
theorem cTimes {w : World} {v : Value} {x m c L : Nat} (hv : NV w v x) (hL : L ≤ 10000) (hx : x < BB ^ L) (hm : m < BB) (hc : c < BB) :
    Calls Tryz.prog 67 #[v, .int .u32 m, .int .u32 c] w fun e w' => Below w.heap.size w w' ∧ ∃ v', e = .returned v' ∧ NV w' v' (x * m + c) ∧ ∀ g, blk v' = some g → w.heap.size ≤ g := by
  obtain ⟨a, na, ca, rfl⟩ := hv
  exact cTimesL na hm hc (Nat.le_trans (len_small na.1 ca hx) hL)
end Go.Proofs.YtjkifbkehochoaaGreatDoor.R

namespace Go.Proofs.YtjkifbkehochoaaGreatDoor.R
open Go.RowKit Fl

theorem ad_valN {a b : List Nat} {n : Nat} (la : a.length ≤ n) (lb : b.length ≤ n) : val ((crw (adF a b) 0 n).1 ++ [(crw (adF a b) 0 n).2]) = val a + val b := by
  have h := cr_val (f := adF a b) (c0 := 0) (t := fun i => a.getD i 0 + b.getD i 0) (n := n) (fun k _ => Nat.mod_add_div _ _) n (Nat.le_refl _)
  rw [sumN_add, sumN_pad _ la, sumN_pad _ lb, Nat.add_zero] at h
  rw [val_append, cr_len]
  simp only [val, Nat.mul_zero, Nat.add_zero]
  exact h
set_option maxRecDepth 100000 in
set_option maxHeartbeats 4000000 in
theorem cPlusL {w : World} {v u : Value} {a b : List Nat} (na : NL w v a) (nb : NL w u b) (hla : a.length ≤ 10001) (hlb : b.length ≤ 10001) :
    Calls Tryz.prog 122 #[v, u] w fun e w' => Below w.heap.size w w' ∧ ∃ v', e = .returned v' ∧ NV w' v' (val a + val b) := by
  have la2 : (a.length : Int) ≤ 10001 := by omega
  have lb2 : (b.length : Int) ≤ 10001 := by omega
  have HW := Lib.hid (And.intro na.1 nb.1)
  have NA1 := Lib.hid na
  have NA2 := Lib.hid nb
  obtain ⟨n, hn⟩ : ∃ n, n = max a.length b.length := ⟨_, rfl⟩
  have HN := Lib.hid hn
  have HL := Lib.hid (show n ≤ 10001 by omega)
  have V1 := Lib.hid (ad_valN (a := a) (b := b) (n := n) (by omega) (by omega))
  obtain ⟨A, ac, rfl⟩ := na.form
  obtain ⟨A', bc, rfl⟩ := nb.form
  have em : madeCells #[Value.int .u32 0] 0 = #[] := by unfold madeCells; simp
  have O0 := OU.made w (p := 0) (q := 0) (by omega) (by unfold maxLen; omega) (B := w.heap.size) (Nat.le_refl _)
  rw [em] at O0
  have O0 := Lib.hid O0
  have B0 : Hid (Below w.heap.size w (w.alloc (.cells #[] 106))) := Lib.hid ((Below.refl _ _).alloc (Nat.le_refl _) _)
  clear na nb hla hlb em hn
  go_enter Tryz.func122, Tryz.ntmps122
  go_upto_region 2 with fail
  generalize w.alloc (.cells #[] 106) = w1 at *
  generalize (Value.slice (some ⟨w.heap.size, 0, none⟩) 0 0) = v1 at *
  go_wp2_with fail
  go_loopw [5, 6, 7] (fun v c i wx => ∃ k : Nat, k ≤ n ∧ i = .int .i64 k ∧ c = .int .u64 ((crw (adF a b) 0 k).2 : Nat) ∧ Hid (OU wx w.heap.size v (crw (adF a b) 0 k).1) ∧ Hid (Below w.heap.size w wx)) (fun _ _ i _ => n - (intOf i).toNat)
  case atStart => exact ⟨0, Nat.zero_le _, rfl, rfl, O0, B0⟩
  case round =>
    obtain ⟨k, hk, rfl, rfl, hO, hB⟩ := hrel
    have hkm : (k : Int) ≤ 10001 := by have := HL.out; omega
    by_cases hlt : k < n
    · have HK : Hid (k + 1 ≤ n) := Lib.hid hlt
      by_cases la : k < a.length
      · by_cases lb : k < b.length
        · clear hlt hk
          have hka : (k : Int) < (a.length : Int) := by omega
          obtain ⟨b1, o1, c1, e1, q1, q2, hA⟩ := (NA1.out.below hB.out).addr (by omega)
          cases e1
          obtain ⟨x, hx⟩ : ∃ x, a[k]? = some x := ⟨a[k], List.getElem?_eq_getElem la⟩
          have kx := hA.2 k x hx
          have gx : a.getD k 0 = x := by rw [List.getD, hx]; rfl
          have xb : x < BB := HW.out.1 x (List.mem_of_getElem? hx)
          have xi : (x : Int) ≤ 4294967295 := by unfold BB at xb; omega
          have wx := u64_small xb
          have hkb : (k : Int) < (b.length : Int) := by omega
          obtain ⟨b2, o2, c2, e2, r1, r2, hA'⟩ := (NA2.out.below hB.out).addr (by omega)
          cases e2
          obtain ⟨y, hy⟩ : ∃ y, b[k]? = some y := ⟨b[k], List.getElem?_eq_getElem lb⟩
          have ky := hA'.2 k y hy
          have gy : b.getD k 0 = y := by rw [List.getD, hy]; rfl
          have yb : y < BB := HW.out.2 y (List.mem_of_getElem? hy)
          have yi : (y : Int) ≤ 4294967295 := by unfold BB at yb; omega
          have wy := u64_small yb
          have E1 : Hid ((crw (adF a b) 0 (k + 1)).1 = (crw (adF a b) 0 k).1 ++ [(x + y + (crw (adF a b) 0 k).2) % BB]) := Lib.hid (by rw [crw, adF, gx, gy])
          have E2 : Hid ((crw (adF a b) 0 (k + 1)).2 = (x + y + (crw (adF a b) 0 k).2) / BB) := Lib.hid (by rw [crw, adF, gx, gy])
          have hcl := ad_carry HW.out.1 HW.out.2 k
          have L1 : Hid ((crw (adF a b) 0 k).1.length ≤ 1000000) := Lib.hid (by rw [cr_len]; have := HL.out; omega)
          obtain ⟨lo, hlo⟩ : ∃ lo, lo = (crw (adF a b) 0 k).2 := ⟨_, rfl⟩
          rw [← hlo] at hcl E1 E2 ⊢
          have hci : (lo : Int) ≤ 1 := by omega
          obtain ⟨d, hd⟩ : ∃ d, d = (x + y + lo) % BB := ⟨_, rfl⟩
          obtain ⟨c3, hc3⟩ : ∃ c3, c3 = (x + y + lo) / BB := ⟨_, rfl⟩
          rw [← hd] at E1
          rw [← hc3] at E2
          have w3 : IntKind.u32.wrap ((lo : Int) + (x : Int) + (y : Int)) = (d : Int) := by rw [show (lo : Int) + (x : Int) + (y : Int) = ((x + y + lo : Nat) : Int) from by push_cast; omega, u32_wrap, hd]
          have w4 : ((lo : Int) + (x : Int) + (y : Int)) / 4294967296 = (c3 : Int) := by rw [hc3]; unfold BB; omega
          clear gx gy hcl hlo hd hc3 hx hA q1 q2 xb hy hA' r1 r2 yb la lb
          go_wp2_with (at_builtin; refine wpList_app rfl (.tmp 43) (.tmp 46) rfl w.heap.size _ _ _ rfl hO.out rfl L1.out hB.out.size ?_; intro v' w' own' bel' siz'; replace own' := Lib.hid own'; replace bel' := Lib.hid bel'; clear siz')
          go_roundw
          case rel => exact ⟨k + 1, HK.out, by go_num, by rw [E2.out], Lib.hid (by rw [E1.out]; exact own'.out), Lib.hid (bel'.out w (Nat.le_refl _) hB.out)⟩
          case measure => have := HK.out; simp [intOf]; omega
        · clear hlt hk
          have hka : (k : Int) < (a.length : Int) := by omega
          obtain ⟨b1, o1, c1, e1, q1, q2, hA⟩ := (NA1.out.below hB.out).addr (by omega)
          cases e1
          obtain ⟨x, hx⟩ : ∃ x, a[k]? = some x := ⟨a[k], List.getElem?_eq_getElem la⟩
          have kx := hA.2 k x hx
          have gx : a.getD k 0 = x := by rw [List.getD, hx]; rfl
          have xb : x < BB := HW.out.1 x (List.mem_of_getElem? hx)
          have xi : (x : Int) ≤ 4294967295 := by unfold BB at xb; omega
          have wx := u64_small xb
          have hkb : ¬ (k : Int) < (b.length : Int) := by omega
          have gy : b.getD k 0 = 0 := by rw [List.getD, List.getElem?_eq_none (by omega)]; rfl
          have E1 : Hid ((crw (adF a b) 0 (k + 1)).1 = (crw (adF a b) 0 k).1 ++ [(x + 0 + (crw (adF a b) 0 k).2) % BB]) := Lib.hid (by rw [crw, adF, gx, gy])
          have E2 : Hid ((crw (adF a b) 0 (k + 1)).2 = (x + 0 + (crw (adF a b) 0 k).2) / BB) := Lib.hid (by rw [crw, adF, gx, gy])
          have hcl := ad_carry HW.out.1 HW.out.2 k
          have L1 : Hid ((crw (adF a b) 0 k).1.length ≤ 1000000) := Lib.hid (by rw [cr_len]; have := HL.out; omega)
          obtain ⟨lo, hlo⟩ : ∃ lo, lo = (crw (adF a b) 0 k).2 := ⟨_, rfl⟩
          rw [← hlo] at hcl E1 E2 ⊢
          have hci : (lo : Int) ≤ 1 := by omega
          obtain ⟨d, hd⟩ : ∃ d, d = (x + 0 + lo) % BB := ⟨_, rfl⟩
          obtain ⟨c3, hc3⟩ : ∃ c3, c3 = (x + 0 + lo) / BB := ⟨_, rfl⟩
          rw [← hd] at E1
          rw [← hc3] at E2
          have w3 : IntKind.u32.wrap ((lo : Int) + (x : Int)) = (d : Int) := by rw [show (lo : Int) + (x : Int) = ((x + 0 + lo : Nat) : Int) from by push_cast; omega, u32_wrap, hd]
          have w4 : ((lo : Int) + (x : Int)) / 4294967296 = (c3 : Int) := by rw [hc3]; unfold BB; omega
          clear gx gy hcl hlo hd hc3 hx hA q1 q2 xb la lb
          go_wp2_with (at_builtin; refine wpList_app rfl (.tmp 43) (.tmp 46) rfl w.heap.size _ _ _ rfl hO.out rfl L1.out hB.out.size ?_; intro v' w' own' bel' siz'; replace own' := Lib.hid own'; replace bel' := Lib.hid bel'; clear siz')
          go_roundw
          case rel => exact ⟨k + 1, HK.out, by go_num, by rw [E2.out], Lib.hid (by rw [E1.out]; exact own'.out), Lib.hid (bel'.out w (Nat.le_refl _) hB.out)⟩
          case measure => have := HK.out; simp [intOf]; omega
      · have lb : k < b.length := by have := HN.out; omega
        clear hlt hk
        have hka : ¬ (k : Int) < (a.length : Int) := by omega
        have gx : a.getD k 0 = 0 := by rw [List.getD, List.getElem?_eq_none (by omega)]; rfl
        have hkb : (k : Int) < (b.length : Int) := by omega
        obtain ⟨b2, o2, c2, e2, r1, r2, hA'⟩ := (NA2.out.below hB.out).addr (by omega)
        cases e2
        obtain ⟨y, hy⟩ : ∃ y, b[k]? = some y := ⟨b[k], List.getElem?_eq_getElem lb⟩
        have ky := hA'.2 k y hy
        have gy : b.getD k 0 = y := by rw [List.getD, hy]; rfl
        have yb : y < BB := HW.out.2 y (List.mem_of_getElem? hy)
        have yi : (y : Int) ≤ 4294967295 := by unfold BB at yb; omega
        have wy := u64_small yb
        have E1 : Hid ((crw (adF a b) 0 (k + 1)).1 = (crw (adF a b) 0 k).1 ++ [(0 + y + (crw (adF a b) 0 k).2) % BB]) := Lib.hid (by rw [crw, adF, gx, gy])
        have E2 : Hid ((crw (adF a b) 0 (k + 1)).2 = (0 + y + (crw (adF a b) 0 k).2) / BB) := Lib.hid (by rw [crw, adF, gx, gy])
        have hcl := ad_carry HW.out.1 HW.out.2 k
        have L1 : Hid ((crw (adF a b) 0 k).1.length ≤ 1000000) := Lib.hid (by rw [cr_len]; have := HL.out; omega)
        obtain ⟨lo, hlo⟩ : ∃ lo, lo = (crw (adF a b) 0 k).2 := ⟨_, rfl⟩
        rw [← hlo] at hcl E1 E2 ⊢
        have hci : (lo : Int) ≤ 1 := by omega
        obtain ⟨d, hd⟩ : ∃ d, d = (0 + y + lo) % BB := ⟨_, rfl⟩
        obtain ⟨c3, hc3⟩ : ∃ c3, c3 = (0 + y + lo) / BB := ⟨_, rfl⟩
        rw [← hd] at E1
        rw [← hc3] at E2
        have w3 : IntKind.u32.wrap ((lo : Int) + (y : Int)) = (d : Int) := by rw [show (lo : Int) + (y : Int) = ((0 + y + lo : Nat) : Int) from by push_cast; omega, u32_wrap, hd]
        have w4 : ((lo : Int) + (y : Int)) / 4294967296 = (c3 : Int) := by rw [hc3]; unfold BB; omega
        clear gx gy hcl hlo hd hc3 hy hA' r1 r2 yb la lb
        go_wp2_with (at_builtin; refine wpList_app rfl (.tmp 43) (.tmp 46) rfl w.heap.size _ _ _ rfl hO.out rfl L1.out hB.out.size ?_; intro v' w' own' bel' siz'; replace own' := Lib.hid own'; replace bel' := Lib.hid bel'; clear siz')
        go_roundw
        case rel => exact ⟨k + 1, HK.out, by go_num, by rw [E2.out], Lib.hid (by rw [E1.out]; exact own'.out), Lib.hid (bel'.out w (Nat.le_refl _) hB.out)⟩
        case measure => have := HK.out; simp [intOf]; omega
    · have hkn : k = n := by omega
      subst hkn
      have hka : ¬ (k : Int) < (a.length : Int) := by have := HN.out; omega
      have hkb : ¬ (k : Int) < (b.length : Int) := by have := HN.out; omega
      have L1 : Hid ((crw (adF a b) 0 k).1.length ≤ 1000000) := Lib.hid (by rw [cr_len]; have := HL.out; omega)
      have hcl := ad_carry HW.out.1 HW.out.2 k
      have hcB : (crw (adF a b) 0 k).2 < BB := by unfold BB; omega
      have W1 : Hid (W64 ((crw (adF a b) 0 k).1 ++ [(crw (adF a b) 0 k).2])) := Lib.hid ((cr_w64 (fun k c => Nat.mod_lt _ BB_pos) _).append fun z hz => by
        rw [List.mem_singleton.1 hz]
        exact hcB)
      have w3 : IntKind.u32.wrap (((crw (adF a b) 0 k).2 : Nat) : Int) = (((crw (adF a b) 0 k).2 : Nat) : Int) := by rw [u32_wrap, Nat.mod_eq_of_lt hcB]
      clear hlt hcl hcB hk
      go_wp2_with (at_builtin; refine wpList_app rfl (.tmp 50) (.tmp 53) rfl w.heap.size _ _ _ rfl hO.out rfl L1.out hB.out.size ?_; intro v' w' own' bel' siz'; replace own' := Lib.hid own'; replace bel' := Lib.hid bel'; clear siz')
      refine (cTrim (own'.out.nl W1.out)).mono ?_
      rintro e w2 ⟨rfl, v2, rfl, hv2, hg2⟩
      have R2 : Hid (NV w' v2 (val a + val b)) := Lib.hid ⟨_, hv2, tn_can _ (Nat.le_refl _), by rw [tn_val _ (Nat.le_refl _), List.take_length, V1.out]⟩
      clear hv2 hg2
      go_wp2_with fail
      go_ret
      exact ⟨bel'.out w (Nat.le_refl _) hB.out, _, rfl, R2.out⟩
theorem cPlus {w : World} {v u : Value} {x y L : Nat} (hv : NV w v x) (hu : NV w u y) (hL : L ≤ 10000) (hx : x < BB ^ L) (hy : y < BB ^ L) :
    Calls Tryz.prog 122 #[v, u] w fun e w' => Below w.heap.size w w' ∧ ∃ v', e = .returned v' ∧ NV w' v' (x + y) := by
  obtain ⟨a, na, ca, rfl⟩ := hv
  obtain ⟨b, nb, cb, rfl⟩ := hu
  exact cPlusL na nb (by have := len_small na.1 ca hx; omega) (by have := len_small nb.1 cb hy; omega)
end Go.Proofs.YtjkifbkehochoaaGreatDoor.R
