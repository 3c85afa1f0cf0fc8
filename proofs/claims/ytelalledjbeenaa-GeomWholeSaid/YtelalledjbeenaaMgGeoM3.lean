/- Arguments that are matrices, opened; the walk of GeomMatrices, told for its frame. An Acc's forty words: length, bit. rounded: the plain laws. rounded: the walk. -/
import Derived.Test.YtelalledjbeenaaMgWL
import Derived.Test.YtelalledjbeenaaGeoU
import Derived.DataReads
import Derived.Test.YtelalledjbeenaaAcc
import Derived.Test.YtelalledjbeenaaMgJoin
import Derived.Test.YtelalledjbeenaaMgAlive
import Derived.Deep.DeepCutAuto
import Derived.Deep.CutBlock
import Derived.Outline
namespace Go.Proofs.Ytelalledjbeenaa
open Go.ChangeShapes Go.WideShapes Go.RowKit
section
variable {H : Type} {enc : TypeId × Value → H} {P : Program} {w : World} {r : Reach} {B0 : Nat}
theorem mapM_each {α β : Type} {f : α → Option β} {l : List α} {r : List β} (h : l.mapM f = some r) : ∀ x ∈ l, ∃ y, f x = some y := fun x hx => by
  obtain ⟨i, hi, rfl⟩ := List.mem_iff_getElem.1 hx
  have hl := mapM_some_length h
  have := mapM_some_get h i _ (List.getElem?_eq_getElem hi)
  rw [List.getElem?_eq_getElem (by omega)] at this
  exact ⟨_, this⟩
theorem open_floats16 {t e : TypeId} {v : Value} {d : DataW H} {p : List MemPlace} (ht : P.underlying t = some (.array 16 e)) (he : P.underlying e = some (.float .f64)) (hC : P.cellsOf t = 16) (hc : P.cellsOf e = 1)
    (hv : Value.okWide P w r B0 t v) (h : DataW.Trod enc P w 0 (fun _ => true) true t v d p) : ∃ ms : List Nat, v = .agg (ms.map (Value.float .f64)).toArray ∧ MU ms := by
  simp only [Value.okWide, ht] at hv
  obtain ⟨cs, rfl, hsz, _⟩ := hv
  rw [hC] at hsz
  obtain ⟨fuel, hf⟩ := h
  have key : ∀ i, i < 16 → ∃ x, cs[i]? = some (Value.float .f64 x) ∧ U x := by
    cases fuel with
    | zero => simp [DataW.trod] at hf
    | succ n =>
      unfold DataW.trod at hf
      rw [ht] at hf
      simp only [Value.cells, Array.length_toList, hsz, hC, if_true] at hf
      rw [Option.map_eq_some_iff] at hf
      obtain ⟨ys, hys, _⟩ := hf
      intro i hi
      obtain ⟨y, hy⟩ := mapM_each hys i (List.mem_range.2 hi)
      have hlt : i < cs.size := by omega
      have e1 : (cs.toList.drop (i * P.cellsOf e)).take (P.cellsOf e) = [cs[i]] := by
        rw [hc, Nat.mul_one, List.drop_eq_getElem_cons (by simpa using hlt)]
        simp
      rw [e1] at hy
      obtain ⟨x, hx, hw⟩ := trod_floatQ he hy
      exact ⟨x, by rw [Array.getElem?_eq_getElem hlt, hx], U_of_wf hw⟩
  refine ⟨cs.toList.map (fun v => match v with | .float _ x => x | _ => 0), ?_, by rw [List.length_map]; simpa using hsz, fun x hx => ?_⟩
  · congr 1
    apply Array.ext
    · simp
    · intro i h1 h2
      obtain ⟨x, hx, _⟩ := key i (by omega)
      rw [Array.getElem?_eq_getElem h1] at hx
      injection hx with hx
      simp [hx]
  · obtain ⟨v, hv, rfl⟩ := List.mem_map.1 hx
    obtain ⟨i, hi, rfl⟩ := List.mem_iff_getElem.1 hv
    rw [Array.length_toList] at hi
    obtain ⟨x, hx, hu⟩ := key i (by omega)
    rw [Array.getElem?_eq_getElem hi] at hx
    injection hx with hx
    rw [Array.getElem_toList, hx]
    exact hu
end
theorem walkGeomMatrices2 (a b : List Nat) (p0 p1 p2 p3 : Nat) (w : World) (ha : MU a) (hb : MU b) (hp0 : U p0) (hp1 : U p1) (hp2 : U p2) (hp3 : U p3) :
    Calls Try.prog 17 #[.agg (a.map (Value.float .f64)).toArray, .agg (b.map (Value.float .f64)).toArray, .agg #[.float .f64 p0, .float .f64 p1, .float .f64 p2, .float .f64 p3]] w fun e w' => e = .returned (.bool true) ∧ Below w.heap.size w w' :=
  walkGeomMatrices ha hb hp0 hp1 hp2 hp3 w
end Go.Proofs.Ytelalledjbeenaa

namespace Go.Proofs.Ytelalledjbeenaa
open Go.RowKit Fl

/-- the i-th word of a whole number that is not below nought -/
def wn (n i : Nat) : Nat := n / 2 ^ (64 * i) % 18446744073709551616
theorem wd_nat (n i : Nat) : wd (n : Int) i = ((wn n i : Nat) : Int) := by
  unfold wd wn
  have e : (2 : Int) ^ (64 * i) = ((2 ^ (64 * i) : Nat) : Int) := by rw [Int.natCast_pow]; rfl
  rw [e, ← Int.natCast_ediv]
  generalize n / 2 ^ (64 * i) = q
  omega
theorem U_wn (n i : Nat) : U (wn n i) := Nat.mod_lt _ (by decide)
theorem P64 (t : Nat) : 2 ^ (64 * (t + 1)) = 2 ^ (64 * t) * 18446744073709551616 := by rw [Nat.mul_succ, Nat.pow_add]
theorem wn_top (n t : Nat) (h : n < 2 ^ (64 * (t + 1))) : wn n t = n / 2 ^ (64 * t) := by
  unfold wn
  rw [P64] at h
  exact Nat.mod_eq_of_lt (Nat.div_lt_of_lt_mul h)
theorem wn_zero_lt (n t : Nat) (h : n < 2 ^ (64 * (t + 1))) (h0 : wn n t = 0) : n < 2 ^ (64 * t) := by
  rw [wn_top n t h] at h0
  rcases Nat.lt_or_ge n (2 ^ (64 * t)) with c | c
  · exact c
  · have := (Nat.le_div_iff_mul_le (Nat.two_pow_pos (64 * t))).2 (show 1 * 2 ^ (64 * t) ≤ n by omega)
    omega
theorem blen_shift (n k : Nat) (h : 0 < n / 2 ^ k) : blen n = k + blen (n / 2 ^ k) := by
  have hn : n ≠ 0 := by intro e; subst e; simp at h
  have hq : n / 2 ^ k ≠ 0 := by omega
  unfold blen
  rw [if_neg hn, if_neg hq]
  have h1 := Nat.log2_self_le hq
  have h2 : n / 2 ^ k < 2 ^ ((n / 2 ^ k).log2 + 1) := Nat.lt_log2_self
  have h3 : n.log2 = k + (n / 2 ^ k).log2 := by
    refine log2_eq _ _ ?_ ?_
    · rw [Nat.pow_add]
      have := (Nat.le_div_iff_mul_le (Nat.two_pow_pos k)).1 h1
      rw [Nat.mul_comm]; exact this
    · rw [Nat.add_assoc, Nat.pow_add]
      have := (Nat.div_lt_iff_lt_mul (Nat.two_pow_pos k)).1 h2
      rw [Nat.mul_comm]; exact this
  omega
theorem len_word (n t : Nat) (h : n < 2 ^ (64 * (t + 1))) (h0 : wn n t ≠ 0) : blen n = 64 * t + blen (wn n t) := by
  rw [wn_top n t h] at h0 ⊢
  exact blen_shift n (64 * t) (Nat.pos_of_ne_zero h0)

def CAP : Nat := 40
theorem CAP_eq : CAP = 40 := rfl
set_option maxRecDepth 100000 in
set_option maxHeartbeats 1000000 in
theorem c180 (n : Nat) (w : World) (h : n < 2 ^ (64 * CAP)) : Calls Try.prog 180 #[.agg (WL (n : Int)).toArray] w fun e w' => e = .returned (.int .i64 (blen n)) ∧ Below w.heap.size w w' := by
  have HR := Lib.hid (row_alloc w (n : Int))
  have HH : Hid (n < 2 ^ (64 * CAP)) := Lib.hid h
  have B1 : Hid (Below w.heap.size w (w.alloc (.cells (WL (n : Int)).toArray 138))) := Lib.hid ((Below.refl _ _).alloc (Nat.le_refl _) _)
  clear h
  go_enter Try.func180, Try.ntmps180
  go_wp2
  go_loop [3] (fun i => ∃ j : Nat, j ≤ 40 ∧ i = .int .i64 ((j : Int) - 1) ∧ Hid (n < 2 ^ (64 * j))) (fun i => (intOf i + 1).toNat)
  case atStart => exact ⟨CAP, by rw [CAP_eq]; omega, rfl, HH⟩
  case round =>
    obtain ⟨j, hj, rfl, hn⟩ := hrel
    rcases Nat.eq_zero_or_pos j with h0 | h0
    · subst h0
      have hz : n = 0 := by have := hn.out; simp at this; omega
      have e : blen n = 0 := by rw [hz]; rfl
      have E := Lib.hid e
      clear e hn HH HR
      subst hz
      go_wp2
      go_ret
      exact ⟨rfl, B1.out⟩
    · obtain ⟨t, rfl⟩ : ∃ t, j = t + 1 := ⟨j - 1, by omega⟩
      have ht : t < 40 := by omega
      have c0 := (HR.out t ht).1
      rw [wd_nat] at c0
      have ej : ((t + 1 : Nat) : Int) - 1 = (t : Int) := by omega
      have hti : (t : Int) ≤ 39 := by omega
      have hlen := len_word n t hn.out
      have hlt := wn_zero_lt n t hn.out
      have hu := U_wn n t
      rw [ej]
      by_cases hw : wn n t = 0
      · have hw' : ((wn n t : Int) != 0) = false := by simp [hw]
        have HN := Lib.hid (hlt hw)
        clear hlen hlt hw hn HH ej
        go_wp2
        go_round
        case rel => exact ⟨t, by omega, rfl, HN⟩
        case measure => simp [intOf]
      · have hw' : ((wn n t : Int) != 0) = true := by simp; omega
        have HL := Lib.hid (hlen hw)
        have hbl : blen (wn n t) ≤ 64 := blen_lt _ 64 hu
        clear hlen hlt hw hn HH ej
        go_wp2_with (go_at_call 176; refine (c176 _ _ (by assumption)).mono ?_; rintro e w' ⟨rfl, rfl⟩)
        go_ret
        exact ⟨ret_int (by rw [HL.out]; push_cast; rfl), B1.out⟩

theorem bit_word (n i : Nat) : wn n (i / 64) / 2 ^ (i % 64) % 2 = n / 2 ^ i % 2 := by
  have e : n / 2 ^ i = n / 2 ^ (64 * (i / 64)) / 2 ^ (i % 64) := by
    rw [Nat.div_div_eq_div_mul, ← Nat.pow_add]; congr 2; omega
  rw [e]
  unfold wn
  generalize n / 2 ^ (64 * (i / 64)) = q
  have hr : i % 64 < 64 := Nat.mod_lt _ (by decide)
  generalize i % 64 = r at *
  have e2 : (18446744073709551616 : Nat) = 2 ^ r * 2 ^ (63 - r) * 2 := by
    rw [Nat.mul_assoc, ← Nat.pow_succ, ← Nat.pow_add]
    rw [show r + (63 - r).succ = 64 by omega]
  rw [e2, Nat.mul_assoc, Nat.mod_mul_right_div_self, Nat.mul_comm (2 ^ (63 - r)) 2, Nat.mod_mul_right_mod]

set_option maxRecDepth 100000 in
set_option maxHeartbeats 1000000 in
theorem c181 (n : Nat) (i : Nat) (w : World) (hi : i < 2560) : Calls Try.prog 181 #[.agg (WL (n : Int)).toArray, .int .i64 i] w fun e w' => e = .returned (.bool (decide (n / 2 ^ i % 2 = 1))) ∧ Below w.heap.size w w' := by
  have c0 := (row_alloc w (n : Int) (i / 64) (by omega)).1
  rw [wd_nat] at c0
  have B1 : Hid (Below w.heap.size w (w.alloc (.cells (WL (n : Int)).toArray 138))) := Lib.hid ((Below.refl _ _).alloc (Nat.le_refl _) _)
  have hb := bit_word n i
  have hu := U_wn n (i / 64)
  have e1 : (wn n (i / 64) : Int) / 2 ^ (i % 64) = ((wn n (i / 64) / 2 ^ (i % 64) : Nat) : Int) := by push_cast; rfl
  have e2 := b_one (wn n (i / 64) / 2 ^ (i % 64)) (Nat.lt_of_le_of_lt (Nat.div_le_self _ _) hu)
  rw [hb] at e2
  have hq : (i : Int) / 64 < 40 := by omega
  have hii : (i : Int) < 2560 := by omega
  clear hb hu
  generalize wn n (i / 64) / 2 ^ (i % 64) = V at *
  go_enter Try.func181, Try.ntmps181
  go_wp2
  go_ret
  exact ⟨rfl, B1.out⟩
end Go.Proofs.Ytelalledjbeenaa

namespace Go.Proofs.Ytelalledjbeenaa
open Go.RowKit Fl

theorem rnd_small (n : Nat) (h : n < 9007199254740992) : rnd n = n := by
  have := rnd_val n (by unfold INF; omega)
  rwa [val_small 52 n (by rw [B52]; omega)] at this
theorem blen_le_small (n : Nat) (h : blen n ≤ 53) : n < 9007199254740992 := by
  have h1 := lt_blen n
  have h2 : 2 ^ blen n ≤ 2 ^ 53 := Nat.pow_le_pow_right (by omega) h
  rw [show (2 ^ 53 : Nat) = 9007199254740992 from by decide] at h2
  omega
/-- the significand that is kept -/
theorem top_bounds (n d : Nat) (h : blen n = d + 53) : 4503599627370496 ≤ n / 2 ^ d ∧ n / 2 ^ d < 9007199254740992 := by
  have h0 : 0 < n := by
    rcases Nat.eq_zero_or_pos n with c | c
    · subst c; simp [blen] at h
    · exact c
  have h1 := lt_blen n
  have h2 := le_blen n h0
  rw [h] at h1 h2
  constructor
  · rw [Nat.le_div_iff_mul_le (Nat.two_pow_pos d), ← B52, ← Nat.pow_add]
    rw [show d + 53 - 1 = 52 + d by omega] at h2
    exact h2
  · rw [Nat.div_lt_iff_lt_mul (Nat.two_pow_pos d), ← show (2 ^ 53 : Nat) = 9007199254740992 from by decide, ← Nat.pow_add]
    rw [show d + 53 = 53 + d by omega] at h1
    exact h1
theorem rung_drop (n d : Nat) (h : blen n = d + 53) : rungOf 52 n 0 = d * 4503599627370496 + rhe n (2 ^ d) := by
  have h0 : 0 < n := by
    rcases Nat.eq_zero_or_pos n with c | c
    · subst c; simp [blen] at h
    · exact c
  have hl : n.log2 = d + 52 := by
    unfold blen at h
    rw [if_neg (by omega)] at h
    omega
  unfold rungOf
  rw [hl, show d + 52 - 52 - 0 = d by omega, Nat.zero_add, B52]
/-- rounding by the half's bit and the rest -/
theorem rhe_half (n d : Nat) (hd : 1 ≤ d) : rhe n (2 ^ d) = n / 2 ^ d + (if n / 2 ^ (d - 1) % 2 = 1 ∧ (n % 2 ^ (d - 1) ≠ 0 ∨ n / 2 ^ d % 2 = 1) then 1 else 0) := by
  unfold rhe
  congr 1
  have hg := two_half d hd
  have hp := Nat.two_pow_pos (d - 1)
  have e1 : n % 2 ^ d = 2 ^ (d - 1) * (n / 2 ^ (d - 1) % 2) + n % 2 ^ (d - 1) := by
    rw [hg, Nat.mul_comm 2, Nat.mod_mul]
    omega
  rw [e1, hg]
  have h1 := Nat.mod_lt n hp
  have h2 : n / 2 ^ (d - 1) % 2 = 0 ∨ n / 2 ^ (d - 1) % 2 = 1 := by omega
  generalize n / (2 * 2 ^ (d - 1)) = q
  generalize 2 ^ (d - 1) = H at *
  generalize n % H = r at *
  generalize n / H % 2 = b at *
  rcases h2 with h2 | h2
  · subst h2
    rw [if_neg (by omega), if_neg (by omega)]
  · subst h2
    by_cases c : r ≠ 0 ∨ q % 2 = 1
    · rw [if_pos (by omega), if_pos ⟨rfl, c⟩]
    · rw [if_neg (by omega), if_neg (by omega)]
/-- the low word and the next one, put together -/
theorem words_join (n d : Nat) (hr : 0 < d % 64) : bits .or .u64 ((wn n (d / 64) / 2 ^ (d % 64) : Nat) : Int) (IntKind.u64.wrap (((wn n (d / 64 + 1) : Nat) : Int) * 2 ^ (64 - d % 64))) = ((n / 2 ^ d % 18446744073709551616 : Nat) : Int) := by
  have hl : d % 64 < 64 := Nat.mod_lt _ (by decide)
  have e : n / 2 ^ d = n / 2 ^ (64 * (d / 64)) / 2 ^ (d % 64) := by
    rw [Nat.div_div_eq_div_mul, ← Nat.pow_add]; congr 2; omega
  have ew : wn n (d / 64 + 1) = n / 2 ^ (64 * (d / 64)) / 18446744073709551616 % 18446744073709551616 := by
    unfold wn
    rw [Nat.div_div_eq_div_mul, P64]
  rw [rest_eq _ _ (by omega) (by omega), e, ew]
  unfold wn
  generalize n / 2 ^ (64 * (d / 64)) = X
  generalize d % 64 = r at *
  have hp := Nat.two_pow_pos (64 - r)
  have hq := Nat.two_pow_pos r
  have e2 : (18446744073709551616 : Nat) = 2 ^ r * 2 ^ (64 - r) := by rw [← Nat.pow_add, show r + (64 - r) = 64 by omega]
  have a1 : X % 18446744073709551616 / 2 ^ r = X / 2 ^ r % 2 ^ (64 - r) := by rw [e2, Nat.mod_mul_right_div_self]
  have a2 : X / 18446744073709551616 % 18446744073709551616 % 2 ^ r = X / 18446744073709551616 % 2 ^ r := Nat.mod_mod_of_dvd _ ⟨2 ^ (64 - r), e2⟩
  have a3 : X / 2 ^ r % 18446744073709551616 = X / 2 ^ r % 2 ^ (64 - r) + 2 ^ (64 - r) * (X / 18446744073709551616 % 2 ^ r) := by
    have e3 : (18446744073709551616 : Nat) = 2 ^ (64 - r) * 2 ^ r := by rw [e2, Nat.mul_comm]
    have e4 : X / 18446744073709551616 = X / 2 ^ r / 2 ^ (64 - r) := by rw [Nat.div_div_eq_div_mul, ← e2]
    rw [e4]
    conv => lhs; rw [e3]
    rw [Nat.mod_mul]
  have h1 : X / 2 ^ r % 2 ^ (64 - r) < 2 ^ (64 - r) := Nat.mod_lt _ hp
  have h2 : X / 2 ^ r % 18446744073709551616 < 18446744073709551616 := Nat.mod_lt _ (by decide)
  rw [a1, a2, a3]
  rw [a3] at h2
  clear a1 a2 a3 e2
  generalize X / 2 ^ r % 2 ^ (64 - r) = A at *
  generalize X / 18446744073709551616 % 2 ^ r = B at *
  rw [Nat.mul_comm (2 ^ (64 - r)) B] at h2 ⊢
  have hj : B * 2 ^ (64 - r) ||| A = B * 2 ^ (64 - r) + A := nat_join (64 - r) (B * 2 ^ (64 - r)) A (Nat.mul_mod_left _ _) h1
  generalize 2 ^ (64 - r) = t at *
  rw [u64_or_nat _ _ (by omega) (by omega), Nat.or_comm, hj, Nat.add_comm]
theorem words_one (n d : Nat) (hr : d % 64 = 0) : wn n (d / 64) = n / 2 ^ d % 18446744073709551616 := by
  unfold wn
  congr 3; omega
theorem b_53 (x q : Nat) (h : q < 9007199254740992) (hx : x = q % 18446744073709551616) : bits .and .u64 (x : Int) 9007199254740991 = (q : Int) := by
  rw [show (9007199254740991 : Int) = ((9007199254740991 : Nat) : Int) from rfl, u64_and_nat _ _ (by omega) (by omega)]
  have := Nat.and_two_pow_sub_one_eq_mod x 53
  rw [show (2 ^ 53 - 1 : Nat) = 9007199254740991 from by decide] at this
  rw [this]; omega
end Go.Proofs.Ytelalledjbeenaa

namespace Go.Proofs.Ytelalledjbeenaa
open Go.RowKit Fl

theorem len138 (z : Int) : (Try.prog.info? 138).map (·.size) = some (WL z).length := by rw [WL_len]; exact size138
theorem rangeB {w wx : World} {z : Int} (h : Below (w.alloc (.cells (WL z).toArray 138)).heap.size (w.alloc (.cells (WL z).toArray 138)) wx) : wx.rangeAt w.heap.size 0 (WL z) :=
  ((row_alloc w z).below h (by simp)).range
theorem cellB {w wx : World} {n : Nat} (h : Below (w.alloc (.cells (WL (n : Int)).toArray 138)).heap.size (w.alloc (.cells (WL (n : Int)).toArray 138)) wx) (t : Nat) (ht : t < 40) : wx.cell? ⟨w.heap.size, t, none⟩ = some (.int .u64 (wn n t)) := by
  rw [(((row_alloc w (n : Int)).below h (by simp)) t ht).1, wd_nat]

set_option maxRecDepth 100000 in
set_option maxHeartbeats 1000000 in
theorem c145a (n : Nat) (w : World) (h : n < 2 ^ (64 * CAP)) (hs : blen n ≤ 53) : Calls Try.prog 145 #[.agg (WL (n : Int)).toArray] w fun e w' => e = .returned (.float .f64 (rnd n)) ∧ Below w.heap.size w w' := by
  have hn := blen_le_small n hs
  have H := Lib.hid (rnd_small n hn)
  have hw0 : wn n 0 = n := by unfold wn; rw [Nat.mul_zero, Nat.pow_zero, Nat.div_one]; exact Nat.mod_eq_of_lt (by omega)
  have HW := Lib.hid hw0
  have H180 := Lib.hid (fun wx => c180 n wx h)
  have HB0 := Lib.hid (Below.refl (w.alloc (.cells (WL (n : Int)).toArray 138)).heap.size (w.alloc (.cells (WL (n : Int)).toArray 138)))
  have hs' : (blen n : Int) ≤ 53 := by omega
  clear hn hw0 h hs
  go_enter Try.func145, Try.ntmps145
  go_wp2_with (first
    | (refine wpList_load_mid rfl 138 (.tmp 1) rfl w.heap.size 0 rfl (WL (n : Int)) _ (rangeB HB0.out) Try.underlying138 rfl (len138 _) ?_)
    | (go_at_call 180; fail))
  refine (H180.out _).mono ?_
  rintro e w1 ⟨rfl, hb⟩
  have c0 := cellB hb 0 (by omega)
  rw [HW.out] at c0
  have B1 := below_of_alloc (Below.refl _ _) hb
  clear hb
  go_wp2
  go_ret
  exact ⟨ret_float H.out.symm, B1⟩

set_option maxRecDepth 100000 in
set_option maxHeartbeats 1000000 in
theorem c145b (n d : Nat) (w : World) (h : n < 2 ^ (64 * CAP)) (hs : blen n = d + 53) (hd : 2046 ≤ d) : Calls Try.prog 145 #[.agg (WL (n : Int)).toArray] w fun e w' => e = .returned (.float .f64 (rnd n)) ∧ Below w.heap.size w w' := by
  have hr : rnd n = 9218868437227405312 := by
    have h1 := rung_drop n d hs
    have h2 := (top_bounds n d hs).1
    have h3 : n / 2 ^ d ≤ rhe n (2 ^ d) := by unfold rhe; omega
    unfold rnd INF; omega
  rw [hr]
  have H180 := Lib.hid (fun wx => c180 n wx h)
  have HB0 := Lib.hid (Below.refl (w.alloc (.cells (WL (n : Int)).toArray 138)).heap.size (w.alloc (.cells (WL (n : Int)).toArray 138)))
  have hsi : (blen n : Int) = (d : Int) + 53 := by omega
  have HS := Lib.hid hsi
  have hdi : (2046 : Int) ≤ (d : Int) := by omega
  have hd2 : (d : Int) ≤ 2560 := by have := blen_lt n _ h; rw [CAP_eq] at this; omega
  clear hr h hs hsi hd
  go_enter Try.func145, Try.ntmps145
  go_wp2_with (first
    | (refine wpList_load_mid rfl 138 (.tmp 1) rfl w.heap.size 0 rfl (WL (n : Int)) _ (rangeB HB0.out) Try.underlying138 rfl (len138 _) ?_)
    | (go_at_call 180; fail))
  refine (H180.out _).mono ?_
  rintro e w1 ⟨rfl, hb⟩
  rw [HS.out]
  have B1 := below_of_alloc (Below.refl _ _) hb
  clear hb
  go_wp2_with (go_at_call 137; refine (c137p _).mono ?_; rintro e w' ⟨rfl, rfl⟩)
  go_ret
  exact ⟨rfl, B1⟩

theorem wrap_succ (q : Nat) (h : q < 9007199254740992) : IntKind.u64.wrap ((q : Int) + 1) = ((q + 1 : Nat) : Int) := by rw [IntKind.wrap_u64]; omega
def rb (n k : Nat) : Bool := decide (n % 2 ^ k ≠ 0)
theorem rest_step (n k : Nat) (h : n % 2 ^ k = 0) : decide (n / 2 ^ k % 2 = 1) = rb n (k + 1) := by
  unfold rb
  have hp := Nat.two_pow_pos k
  have e : n % 2 ^ (k + 1) = n % 2 ^ k + 2 ^ k * (n / 2 ^ k % 2) := by rw [Nat.pow_succ, Nat.mod_mul]
  rw [e, h, Nat.zero_add]
  have h2 : n / 2 ^ k % 2 = 0 ∨ n / 2 ^ k % 2 = 1 := by omega
  rcases h2 with h2 | h2 <;> rw [h2] <;> simp
theorem rest_more (n k m : Nat) (hk : k ≤ m) (h : n % 2 ^ k ≠ 0) : n % 2 ^ m ≠ 0 := by
  intro h0
  apply h
  have : 2 ^ k ∣ 2 ^ m := Nat.pow_dvd_pow 2 hk
  exact Nat.mod_eq_zero_of_dvd (Nat.dvd_trans this (Nat.dvd_of_mod_eq_zero h0))

set_option maxRecDepth 100000 in
set_option maxHeartbeats 4000000 in
theorem c145c (n d : Nat) (w : World) (h : n < 2 ^ (64 * CAP)) (hs : blen n = d + 53) (hd1 : 1 ≤ d) (hd : d ≤ 2045) : Calls Try.prog 145 #[.agg (WL (n : Int)).toArray] w fun e w' => e = .returned (.float .f64 (rnd n)) ∧ Below w.heap.size w w' := by
  obtain ⟨t1, t2⟩ := top_bounds n d hs
  have hrung := rung_drop n d hs
  have hrhe := rhe_half n d hd1
  have H180 := Lib.hid (fun wx => c180 n wx h)
  have HB0 := Lib.hid (Below.refl (w.alloc (.cells (WL (n : Int)).toArray 138)).heap.size (w.alloc (.cells (WL (n : Int)).toArray 138)))
  have hsi : (blen n : Int) = (d : Int) + 53 := by omega
  have HS := Lib.hid hsi
  have hdi : (1 : Int) ≤ (d : Int) := by omega
  have hd2 : (d : Int) ≤ 2045 := by omega
  have HD1 := Lib.hid hd1
  have HD := Lib.hid hd
  have hq : (d : Int) / 64 + 1 < 40 := by omega
  have hx : n / 2 ^ d % 18446744073709551616 = n / 2 ^ d := Nat.mod_eq_of_lt (by omega)
  have hm := b_53 (n / 2 ^ d) (n / 2 ^ d) t2 hx.symm
  have hj := words_join n d
  have ho := words_one n d
  rw [hx] at hj ho
  have e5 := wrap_succ (n / 2 ^ d) t2
  have eo := b_one (n / 2 ^ d) (Nat.lt_of_lt_of_le t2 (by decide))
  clear hx
  generalize n / 2 ^ d = q at *
  have HT1 := Lib.hid t1
  have HT2 := Lib.hid t2
  have HRU := Lib.hid hrung
  have HRH := Lib.hid hrhe
  have HE5 := Lib.hid e5
  have HEO := Lib.hid eo
  clear h hs hsi hd t1 t2 hrung hrhe hd1 e5 eo
  go_enter Try.func145, Try.ntmps145
  go_wp2_with (first
    | (refine wpList_load_mid rfl 138 (.tmp 1) rfl w.heap.size 0 rfl (WL (n : Int)) _ (rangeB HB0.out) Try.underlying138 rfl (len138 _) ?_)
    | (go_at_call 180; fail))
  refine (H180.out _).mono ?_
  rintro e w1 ⟨rfl, hb⟩
  rw [HS.out]
  have hq2 : d / 64 < 40 := by omega
  have hq3 : d / 64 + 1 < 40 := by omega
  have c0 := cellB hb (d / 64) hq2
  have c1 := cellB hb (d / 64 + 1) hq3
  have HB := Lib.hid hb
  clear hb H180 HB0 hq2 hq3
  go_upto_if 31 with fail
  go_cut [5] (fun s wx => s = .int .u64 (q : Int) ∧ wx = w1)
  case first =>
    by_cases hr : 0 < d % 64
    · have hj' := hj hr
      have e1 : (wn n (d / 64) : Int) / 2 ^ (d % 64) = ((wn n (d / 64) / 2 ^ (d % 64) : Nat) : Int) := by push_cast; rfl
      have hri : (0 : Int) < (d : Int) % 64 := by omega
      clear hj ho hr
      generalize wn n (d / 64) / 2 ^ (d % 64) = V at *
      go_wp2
      go_meet
      exact ⟨rfl, rfl⟩
    · have hr0 : d % 64 = 0 := by omega
      have ho' := ho hr0
      have hri : ¬ (0 : Int) < (d : Int) % 64 := by omega
      have e1 : (wn n (d / 64) : Int) / 2 ^ (d % 64) = (q : Int) := by
        rw [hr0, ← ho', Int.pow_zero, Int.ediv_one]
      clear hj ho hr ho' hr0
      go_wp2
      go_meet
      exact ⟨rfl, rfl⟩
  case rest =>
    obtain ⟨rfl, rfl⟩ := hcut
    clear hj ho c0 c1
    go_wp2_with (first
      | (refine wpList_load_mid rfl 138 (.tmp 1) rfl w.heap.size 0 rfl (WL (n : Int)) _ (rangeB HB.out) Try.underlying138 rfl (len138 _) ?_)
      | (go_at_call 181; fail))
    have e9 : ((d : Int) - 1) = ((d - 1 : Nat) : Int) := by have := HD1.out; omega
    rw [e9]
    refine (c181 n (d - 1) _ (by have := HD.out; omega)).mono ?_
    rintro e w2 ⟨rfl, hb2⟩
    have HB2 := Lib.hid (HB.out.trans (hb2.mono HB.out.size))
    clear hb2 HB
    obtain ⟨hf, hhf⟩ : ∃ b : Bool, b = decide (n / 2 ^ (d - 1) % 2 = 1) := ⟨_, rfl⟩
    rw [← hhf]
    have HF := Lib.hid hhf
    clear hhf
    go_upto_block 0 with fail
    go_cut [7, 8] (fun r i wx => r = .bool (rb n (d - 1)) ∧ Hid (Below (w.alloc (.cells (WL (n : Int)).toArray 138)).heap.size (w.alloc (.cells (WL (n : Int)).toArray 138)) wx))
    case first =>
      go_wp2_with fail
      go_loopw [7, 8] (fun r i wx => ∃ k : Nat, k ≤ d - 1 ∧ i = .int .i64 k ∧ r = .bool (rb n k) ∧ Hid (Below (w.alloc (.cells (WL (n : Int)).toArray 138)).heap.size (w.alloc (.cells (WL (n : Int)).toArray 138)) wx)) (fun _ i _ => d - (intOf i).toNat)
      case atStart => exact ⟨0, by omega, rfl, by simp [rb, Nat.mod_one], HB2⟩
      case round =>
        obtain ⟨k, hk, rfl, rfl, hB⟩ := hrel
        by_cases hz : n % 2 ^ k = 0
        · have er : rb n k = false := decide_eq_false (by omega)
          rw [er]
          by_cases hlt : k < d - 1
          · have hki : (k : Int) < (d : Int) - 1 := by omega
            have hst := rest_step n k hz
            have HK := Lib.hid (show k < 2560 by have := HD.out; omega)
            have HLT := Lib.hid hlt
            clear er hz hlt
            go_wp2_with (first
              | (refine wpList_load_mid rfl 138 (.tmp 1) rfl w.heap.size 0 rfl (WL (n : Int)) _ (rangeB hB.out) Try.underlying138 rfl (len138 _) ?_)
              | (go_at_call 181; refine (c181 n k _ HK.out).mono ?_; rintro e w3 ⟨rfl, hb3⟩; rw [hst]; have HB3 := Lib.hid (hB.out.trans (hb3.mono hB.out.size)); clear hb3))
            go_roundw
            case rel => exact ⟨k + 1, by have := HLT.out; omega, by go_num, rfl, HB3⟩
            case measure => have := HLT.out; have := HD1.out; simp [intOf]; omega
          · have hk2 : k = d - 1 := by omega
            have hki : ¬ (k : Int) < (d : Int) - 1 := by omega
            have e7 : rb n (d - 1) = false := by rw [← hk2]; exact er
            have E7 := Lib.hid e7
            clear er hz hlt hk2 e7
            go_wp2
            go_meet
            exact ⟨by rw [E7.out], hB⟩
        · have er : rb n k = true := decide_eq_true (by omega)
          have e7 : rb n (d - 1) = true := decide_eq_true (rest_more n k (d - 1) hk (by omega))
          have E7 := Lib.hid e7
          rw [er]
          clear er hz e7
          go_wp2
          all_goals
            go_meet
            exact ⟨by rw [E7.out], hB⟩
    case rest =>
      obtain ⟨rfl, hB⟩ := hcut
      clear HB2
      have eo := HEO.out
      have e5 := HE5.out
      have hM : Hid (rhe n (2 ^ d) = q + (if (hf && (rb n (d - 1) || decide (q % 2 = 1))) = true then 1 else 0)) := by
        have h1 := HRH.out
        have h2 := HF.out
        rw [h2]
        unfold rb
        refine Lib.hid (h1.trans ?_)
        simp only [Bool.and_eq_true, Bool.or_eq_true, decide_eq_true_eq]
      have hR : Hid (rnd n = min (d * 4503599627370496 + rhe n (2 ^ d)) INF) := Lib.hid (by unfold rnd; rw [HRU.out])
      obtain ⟨M, hMM⟩ : ∃ M, M = rhe n (2 ^ d) := ⟨_, rfl⟩
      rw [← hMM] at hM hR
      have hm1 : Hid (4503599627370496 ≤ M ∧ M ≤ 9007199254740992) := by
        have h1 := hM.out
        have h2 := HT1.out
        have h3 := HT2.out
        refine Lib.hid ?_
        rw [h1]; split <;> omega
      have B4 : Hid (Below w.heap.size w wc) := Lib.hid (below_of_alloc (Below.refl _ _) hB.out)
      clear hMM HRH HF HRU hm HEO HE5
      generalize rb n (d - 1) = R at *
      generalize decide (q % 2 = 1) = O at *
      clear HT1 HT2 hB HS
      go_upto_region 16 with fail
      go_cut [70] (fun s wx => s = .bool (hf && (R || O)) ∧ wx = wc)
      case first =>
        cases hf <;> cases R <;> cases O
        all_goals
          go_wp2
          all_goals
            go_meet
            exact ⟨rfl, rfl⟩
      case rest =>
        obtain ⟨rfl, rfl⟩ := hcut
        generalize (hf && (R || O)) = up at *
        go_upto_if 70 with fail
        go_cut [5] (fun s wx => s = .int .u64 (M : Int) ∧ wx = wc)
        case first =>
          cases up
          · have e8 : q = M := by have := hM.out; simp at this; omega
            subst e8
            clear e5 eo
            go_wp2
            go_meet
            exact ⟨rfl, rfl⟩
          · have e8 : q + 1 = M := by have := hM.out; simp at this; omega
            have E8 := Lib.hid e8
            clear eo e8
            go_wp2
            go_meet
            exact ⟨by have e := E8.out; rw [← e]; rfl, rfl⟩
        case rest =>
          obtain ⟨rfl, rfl⟩ := hcut
          clear eo e5 hM
          have hR1 := hR.out
          obtain ⟨m1, m2⟩ := hm1.out
          by_cases hM : M = 9007199254740992
          · have e1 : ((M : Int) == 9007199254740992) = true := by rw [hM]; rfl
            have e2 : (M : Int) / 2 = 4503599627370496 := by rw [hM]; rfl
            have d0 : d ≤ 2045 := HD.out
            by_cases hT : d = 2045
            · have r1 : rnd n = 9218868437227405312 := by rw [hR1, hM, hT]; rfl
              have dt : (d : Int) + 1 + 1 = 2047 := by omega
              have R1 := Lib.hid r1
              clear hR1 r1 m1 m2 hM hR
              go_wp2_with (go_at_call 137; refine (c137p _).mono ?_; rintro e w' ⟨rfl, rfl⟩)
              go_ret
              exact ⟨ret_float R1.out.symm, B4.out⟩
            · have r1 : rnd n = (d + 2) * 4503599627370496 := by rw [hR1, hM]; unfold INF; omega
              have dt : (d : Int) + 1 + 1 ≤ 2046 := by omega
              have hu : U ((d + 2) * 4503599627370496) := by unfold U; omega
              have R1 := Lib.hid r1
              have hj : bits .or .u64 (((d : Int) + 1 + 1) * 4503599627370496) (bits .and .u64 4503599627370496 4503599627370495) = (((d + 2) * 4503599627370496 : Nat) : Int) := by
                have e9 := b_join (d + 1) 4503599627370496 (by omega) (by omega) (by omega)
                rw [show ((d + 1 : Nat) : Int) - 1074 + 1075 = (d : Int) + 1 + 1 by omega, show (d + 1) * 4503599627370496 + 4503599627370496 = (d + 2) * 4503599627370496 by omega] at e9
                exact e9
              clear hR1 r1 m1 m2 hM hR
              generalize (d + 2) * 4503599627370496 = R at *
              have HU := Lib.hid hu
              clear hu
              go_wp2_with (go_at_call 153; refine (x153 _ HU.out _).mono ?_; rintro e w' ⟨rfl, rfl⟩)
              go_ret
              exact ⟨ret_float R1.out.symm, B4.out⟩
          · have e1 : ((M : Int) == 9007199254740992) = false := by simp; omega
            have d0 : d ≤ 2045 := HD.out
            have r1 : rnd n = d * 4503599627370496 + M := by rw [hR1]; unfold INF; omega
            have dt : (d : Int) + 1 ≤ 2046 := by omega
            have hu : U (d * 4503599627370496 + M) := by unfold U; omega
            have hj : bits .or .u64 (((d : Int) + 1) * 4503599627370496) (bits .and .u64 (M : Int) 4503599627370495) = ((d * 4503599627370496 + M : Nat) : Int) := by
              have e9 := b_join d M (by omega) (by omega) (by omega)
              rw [show (d : Int) - 1074 + 1075 = (d : Int) + 1 by omega] at e9
              exact e9
            have R1 := Lib.hid r1
            clear hR1 r1 hM hR m1 m2
            generalize d * 4503599627370496 + M = R at *
            have HU := Lib.hid hu
            clear hu
            go_wp2_with (go_at_call 153; refine (x153 _ HU.out _).mono ?_; rintro e w' ⟨rfl, rfl⟩)
            go_ret
            exact ⟨ret_float R1.out.symm, B4.out⟩

theorem c145 (n : Nat) (w : World) (h : n < 2 ^ (64 * CAP)) : Calls Try.prog 145 #[.agg (WL (n : Int)).toArray] w fun e w' => e = .returned (.float .f64 (rnd n)) ∧ Below w.heap.size w w' := by
  by_cases h1 : blen n ≤ 53
  · exact c145a n w h h1
  · obtain ⟨d, hd⟩ : ∃ d, blen n = d + 53 := ⟨blen n - 53, by omega⟩
    by_cases h2 : d ≤ 2045
    · exact c145c n d w h hd (by omega) h2
    · exact c145b n d w h hd (by omega)
end Go.Proofs.Ytelalledjbeenaa
