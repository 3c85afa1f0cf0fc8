/- GeomWhole: what its calls answer; its memory. GeomWhole: rectangles told either way are one: plain laws. -/
import Derived.Test.YtelalledjbeenaaMgWA
import Derived.Test.YtelalledjbeenaaWH
import Derived.Test.YtelalledjbeenaaMgGeoP
import Derived.Test.YtelalledjbeenaaGeoT
namespace Go.Proofs.Ytelalledjbeenaa
open Go.RowKit Fl

/-- blocks of the call's own -/
structure Mem (w wx : World) (L : List (Nat × List Value)) : Prop where
  b : Below w.heap.size w wx
  k : ∀ (i g : Nat) (cs : List Value), L[i]? = some (g, cs) → Kp wx g cs
theorem Mem.below {w wx wy : World} {L : List (Nat × List Value)} (h : Mem w wx L) (hb : Below wx.heap.size wx wy) : Mem w wy L := ⟨below_trans h.b hb, fun i g cs hi => (h.k i g cs hi).below hb⟩
theorem Mem.snoc {w wx : World} {L : List (Nat × List Value)} {g : Nat} {cs : List Value} (h : Mem w wx L) (k : Kp wx g cs) : Mem w wx (L ++ [(g, cs)]) := by
  refine ⟨h.b, fun i g' cs' hi => ?_⟩
  rcases Nat.lt_or_ge i L.length with c | c
  · rw [List.getElem?_append_left c] at hi; exact h.k i g' cs' hi
  · rw [List.getElem?_append_right c] at hi
    have e0 : i - L.length = 0 := by
      rcases Nat.eq_zero_or_pos (i - L.length) with h0 | h0
      · exact h0
      · rw [List.getElem?_eq_none (by simp; omega)] at hi; cases hi
    rw [e0] at hi
    simp only [List.getElem?_cons_zero, Option.some.injEq, Prod.mk.injEq] at hi
    rw [← hi.1, ← hi.2]; exact k
theorem mem_new {w wx : World} {L : List (Nat × List Value)} (h : Mem w wx L) (Z : Array Value) (t : TypeId) (X : List Value) (hX : X.length = Z.size) : Mem w ((wx.alloc (.cells Z t)).setCells wx.heap.size 0 X) (L ++ [(wx.heap.size, X)]) := by
  have hb := below_setCells ((Below.refl wx.heap.size wx).alloc (Nat.le_refl _) (.cells Z t)) (Nat.le_refl _) 0 X
  exact (h.below hb).snoc ⟨World.rangeAt_setCells_same _ _ _ _ (by rw [hX]; exact there_new wx Z t _ rfl), by rw [size_setCells]; simp⟩
theorem mem_two {w wc w3 : World} {L : List (Nat × List Value)} {b c n m : Nat} {X Y : List Value} (h : Mem w wc L) (hB : Below wc.heap.size wc w3) (hb : wc.heap.size ≤ b ∧ b < w3.heap.size ∧ w3.there b 0 n) (hc : wc.heap.size ≤ c ∧ c < w3.heap.size ∧ w3.there c 0 m) (hne : b ≠ c) (hX : X.length = n) (hY : Y.length = m) :
    Mem w ((w3.setCells b 0 X).setCells c 0 Y) (L ++ [(b, X)] ++ [(c, Y)]) := by
  have hb2 : Below wc.heap.size wc ((w3.setCells b 0 X).setCells c 0 Y) := below_setCells (below_setCells hB hb.1 0 X) hc.1 0 Y
  refine ((h.below hb2).snoc ⟨World.rangeAt_setCells_apart (World.rangeAt_setCells_same _ _ _ _ (by rw [hX]; exact hb.2.2)) _ _ _ (.inl hne), ?_⟩).snoc ⟨World.rangeAt_setCells_same _ _ _ _ (World.there_setCells (by rw [hY]; exact hc.2.2) _ _ _), ?_⟩
  · rw [size_setCells, size_setCells]; exact hb.2.1
  · rw [size_setCells, size_setCells]; exact hc.2.1
theorem mapI_inj {a b : List Int} (h : (a.map (Value.int .i16)) = b.map (Value.int .i16)) : a = b := by
  have hi : ∀ x y : Int, Value.int .i16 x = Value.int .i16 y → x = y := fun x y h => by injection h
  induction a generalizing b with
  | nil => cases b with
    | nil => rfl
    | cons y s => cases h
  | cons x r ih => cases b with
    | nil => cases h
    | cons y s =>
      rw [List.map_cons, List.map_cons] at h
      injection h with h1 h2
      rw [hi x y h1, ih h2]
/-! ### what the calls answer -/
def Q122 (args : Array Value) (v : Value) : Prop := ∀ a b c d : Int, args = #[.agg #[.int .i32 a, .int .i32 b, .int .i32 c, .int .i32 d]] → v = .agg #[.float .f64 (fz a), .float .f64 (fz b), .float .f64 (fz c), .float .f64 (fz d)]
def Q57 (args : Array Value) (v : Value) : Prop := ∀ a b c d x y : Nat, args = #[.agg #[.float .f64 a, .float .f64 b, .float .f64 c, .float .f64 d], .float .f64 x, .float .f64 y] → v = .bool (hasP (pl a) (pl b) (pl c) (pl d) (pl x) (pl y))
def uniW (A0 A1 A2 A3 B0 B1 B2 B3 : Int) (v : Value) : Prop := ∃ r0 r1 r2 r3 : Nat, v = .agg #[.float .f64 r0, .float .f64 r1, .float .f64 r2, .float .f64 r3] ∧ RV r0 (minP (loP A0 A2) (loP B0 B2)) ∧ RV r1 (minP (loP A1 A3) (loP B1 B3)) ∧
  RV r2 (opP .sub (maxP (hiP A0 A2) (hiP B0 B2)) (minP (loP A0 A2) (loP B0 B2))) ∧ RV r3 (opP .sub (maxP (hiP A1 A3) (hiP B1 B3)) (minP (loP A1 A3) (loP B1 B3)))
def Q55 (args : Array Value) (v : Value) : Prop := ∀ a b c d x y z u : Nat, args = #[.agg #[.float .f64 a, .float .f64 b, .float .f64 c, .float .f64 d], .agg #[.float .f64 x, .float .f64 y, .float .f64 z, .float .f64 u]] → uniW (pl a) (pl b) (pl c) (pl d) (pl x) (pl y) (pl z) (pl u) v
def Q123 (args : Array Value) (v : Value) : Prop := ∀ (zs : List Int) (B : Int), args = #[.agg (zs.map (Value.int .i16)).toArray, .int .i16 B] → v = .agg ((mzL zs B).map (Value.float .f64)).toArray
def Q103 (args : Array Value) (v : Value) : Prop := ∀ ms : List Nat, args = #[.agg (ms.map (Value.float .f64)).toArray] → ∃ r : Nat, v = .float .f64 r ∧ RV r (detP (mp ms))
def Q99 (args : Array Value) (v : Value) : Prop := ∀ a b : List Nat, args = #[.agg (a.map (Value.float .f64)).toArray, .agg (b.map (Value.float .f64)).toArray] → ∃ os : List Nat, v = .agg (os.map (Value.float .f64)).toArray ∧ MU os ∧ ∀ j, j < 16 → mp os j = timesP (mp a) (mp b) j
def Q101 (args : Array Value) (v : Value) : Prop := ∀ (ms : List Nat) (x y z u : Nat), args = #[.agg (ms.map (Value.float .f64)).toArray, .agg #[.float .f64 x, .float .f64 y, .float .f64 z, .float .f64 u]] →
  ∃ r0 r1 r2 r3 : Nat, v = .agg #[.float .f64 r0, .float .f64 r1, .float .f64 r2, .float .f64 r3] ∧ RV r0 (rowP (mp ms) 0 (pl x) (pl y) (pl z) (pl u)) ∧ RV r1 (rowP (mp ms) 1 (pl x) (pl y) (pl z) (pl u)) ∧ RV r2 (rowP (mp ms) 2 (pl x) (pl y) (pl z) (pl u)) ∧ RV r3 (rowP (mp ms) 3 (pl x) (pl y) (pl z) (pl u))
def GW (D : Int) (f : FuncId) (args : Array Value) (v : Value) : Prop :=
  match f with
  | 122 => Q122 args v
  | 57 => Q57 args v
  | 55 => Q55 args v
  | 123 => Q123 args v
  | 103 => Q103 args v
  | 99 => Q99 args v
  | 101 => Q101 args v
  | 125 => v = .int .i64 D
  | _ => True
theorem w122 (D a b c d : Int) (w : World) : Calls Try.prog 122 #[.agg #[.int .i32 a, .int .i32 b, .int .i32 c, .int .i32 d]] w fun e w' => ∃ v, e = .returned v ∧ GW D 122 #[.agg #[.int .i32 a, .int .i32 b, .int .i32 c, .int .i32 d]] v ∧ Below w.heap.size w w' :=
  (k122 a b c d w).mono fun e w' ⟨he, hb⟩ => ⟨_, he, fun a' b' c' d' h => by
    simp only [Array.mk.injEq, List.cons.injEq, Value.agg.injEq, Value.int.injEq, true_and, and_true] at h
    obtain ⟨rfl, rfl, rfl, rfl⟩ := h; rfl, hb⟩
theorem w57 (D : Int) {a b c d x y : Nat} (ha : U a) (hb : U b) (hc : U c) (hd : U d) (hx : U x) (hy : U y) (w : World) : Calls Try.prog 57 #[.agg #[.float .f64 a, .float .f64 b, .float .f64 c, .float .f64 d], .float .f64 x, .float .f64 y] w
    fun e w' => ∃ v, e = .returned v ∧ GW D 57 #[.agg #[.float .f64 a, .float .f64 b, .float .f64 c, .float .f64 d], .float .f64 x, .float .f64 y] v ∧ Below w.heap.size w w' :=
  (k57 (RV.self ha) (RV.self hb) (RV.self hc) (RV.self hd) (RV.self hx) (RV.self hy) w).mono fun e w' ⟨he, hb⟩ => ⟨_, he, fun a' b' c' d' x' y' h => by
    simp only [Array.mk.injEq, List.cons.injEq, Value.agg.injEq, Value.float.injEq, true_and, and_true] at h
    obtain ⟨⟨rfl, rfl, rfl, rfl⟩, rfl, rfl⟩ := h; rfl, hb⟩
theorem w55 (D : Int) {a b c d x y z u : Nat} (ha : U a) (hb : U b) (hc : U c) (hd : U d) (hx : U x) (hy : U y) (hz : U z) (hu : U u) (w : World) : Calls Try.prog 55 #[.agg #[.float .f64 a, .float .f64 b, .float .f64 c, .float .f64 d], .agg #[.float .f64 x, .float .f64 y, .float .f64 z, .float .f64 u]] w
    fun e w' => ∃ v, e = .returned v ∧ GW D 55 #[.agg #[.float .f64 a, .float .f64 b, .float .f64 c, .float .f64 d], .agg #[.float .f64 x, .float .f64 y, .float .f64 z, .float .f64 u]] v ∧ Below w.heap.size w w' :=
  (k55 (RV.self ha) (RV.self hb) (RV.self hc) (RV.self hd) (RV.self hx) (RV.self hy) (RV.self hz) (RV.self hu) w).mono fun e w' ⟨⟨r0, r1, r2, r3, he, hr⟩, hb⟩ => ⟨_, he, fun a' b' c' d' x' y' z' u' h => by
    simp only [Array.mk.injEq, List.cons.injEq, Value.agg.injEq, Value.float.injEq, true_and, and_true] at h
    obtain ⟨⟨rfl, rfl, rfl, rfl⟩, rfl, rfl, rfl, rfl⟩ := h; exact ⟨r0, r1, r2, r3, rfl, hr⟩, hb⟩
theorem w123 (D : Int) {zs : List Int} (hl : zs.length = 16) (hz : ∀ z ∈ zs, -32768 ≤ z ∧ z ≤ 32767) (B : Nat) (hB : 0 < B ∧ B < 32768) (I : Int) (hI : I = (B : Int)) (w : World) : Calls Try.prog 123 #[.agg (zs.map (Value.int .i16)).toArray, .int .i16 I] w
    fun e w' => ∃ v, e = .returned v ∧ GW D 123 #[.agg (zs.map (Value.int .i16)).toArray, .int .i16 I] v ∧ Below w.heap.size w w' := by
  subst hI
  exact (k123 hl hz B hB w).mono fun e w' ⟨he, hb⟩ => ⟨_, he, fun zs' B' h => by
    simp only [Array.mk.injEq, List.cons.injEq, Value.agg.injEq, Value.int.injEq, true_and, and_true] at h
    obtain ⟨h1, rfl⟩ := h
    rw [mapI_inj h1], hb⟩
theorem w103 (D : Int) {ms : List Nat} (hm : MU ms) (w : World) : Calls Try.prog 103 #[.agg (ms.map (Value.float .f64)).toArray] w fun e w' => ∃ v, e = .returned v ∧ GW D 103 #[.agg (ms.map (Value.float .f64)).toArray] v ∧ Below w.heap.size w w' :=
  (k103 hm w).mono fun e w' ⟨⟨r, he, hr⟩, hb⟩ => ⟨_, he, fun ms' h => by
    simp only [Array.mk.injEq, List.cons.injEq, and_true] at h
    rw [← mapF_inj h]; exact ⟨r, rfl, hr⟩, hb⟩
theorem w99 (D : Int) {a b : List Nat} (ha : MU a) (hb : MU b) (w : World) : Calls Try.prog 99 #[.agg (a.map (Value.float .f64)).toArray, .agg (b.map (Value.float .f64)).toArray] w
    fun e w' => ∃ v, e = .returned v ∧ GW D 99 #[.agg (a.map (Value.float .f64)).toArray, .agg (b.map (Value.float .f64)).toArray] v ∧ Below w.heap.size w w' :=
  (k99 ha hb w).mono fun e w' ⟨⟨os, he, h1, h2⟩, hb⟩ => ⟨_, he, fun a' b' h => by
    simp only [Array.mk.injEq, List.cons.injEq, and_true] at h
    rw [← mapF_inj h.1, ← mapF_inj h.2]; exact ⟨os, rfl, h1, h2⟩, hb⟩
theorem w101 (D : Int) {ms : List Nat} {x y z u : Nat} (hm : MU ms) (hx : U x) (hy : U y) (hz : U z) (hu : U u) (w : World) : Calls Try.prog 101 #[.agg (ms.map (Value.float .f64)).toArray, .agg #[.float .f64 x, .float .f64 y, .float .f64 z, .float .f64 u]] w
    fun e w' => ∃ v, e = .returned v ∧ GW D 101 #[.agg (ms.map (Value.float .f64)).toArray, .agg #[.float .f64 x, .float .f64 y, .float .f64 z, .float .f64 u]] v ∧ Below w.heap.size w w' :=
  (k101 hm (RV.self hx) (RV.self hy) (RV.self hz) (RV.self hu) w).mono fun e w' ⟨⟨r0, r1, r2, r3, he, hr⟩, hb⟩ => ⟨_, he, fun ms' x' y' z' u' h => by
    simp only [Array.mk.injEq, List.cons.injEq, and_true] at h
    obtain ⟨h1, h2⟩ := h
    simp only [Array.mk.injEq, List.cons.injEq, Value.agg.injEq, Value.float.injEq, true_and, and_true] at h2
    obtain ⟨rfl, rfl, rfl, rfl⟩ := h2
    rw [← mapF_inj h1]; exact ⟨r0, r1, r2, r3, rfl, hr⟩, hb⟩
theorem w125 {ms : List Nat} {z : Nat → Int} {B : Nat} (h : IM ms z B) (hB : B ≤ 1024) (w : World) : Calls Try.prog 125 #[.agg (ms.map (Value.float .f64)).toArray] w fun e w' => ∃ v, e = .returned v ∧ GW (detZ z) 125 #[.agg (ms.map (Value.float .f64)).toArray] v ∧ Below w.heap.size w w' :=
  (k125 h hB w).mono fun e w' ⟨he, hb⟩ => ⟨_, he, rfl, hb⟩
/-! ### px / 64 -/
def C64 : Nat := 4634204016564240384
theorem quo64 (p : Int) (h : p.natAbs ≤ 32768) : ∃ r, (∀ w, (binOp .quo 24 (.float .f64 (fz p)) (.float .f64 C64)).run Try.prog w = .ok (.float .f64 r) w) ∧ U r ∧ fin r = true ∧ val 52 (rg r) ≤ 512 * ONE := by
  obtain ⟨ra, ua, fa, pa, za⟩ := (fz_place p 32768 h (by decide)).pu
  have ea : ra = fz p := by
    rcases (pl_eq_iff ua (fz_U p)).1 pa with h | ⟨h, _⟩
    · exact h
    · rw [fin_not_nan fa] at h; cases h
  subst ea
  obtain ⟨rb, ub, fb, pb, zb⟩ := (fz_place 64 64 (by decide) (by decide)).pu
  have eb : rb = fz 64 := by
    rcases (pl_eq_iff ub (fz_U 64)).1 pb with h | ⟨h, _⟩
    · exact h
    · rw [fin_not_nan fb] at h; cases h
  have ec : fz 64 = C64 := by decide +kernel
  subst eb
  rw [ec] at ub fb zb
  have hK := K_eq
  have hvb : val 52 (rg C64) = 2 ^ (6 + K) := by rw [← un_abs, zb, Int.natAbs_mul, Nat.pow_add, ← one_pow]; rfl
  have hva : val 52 (rg (fz p)) = p.natAbs * ONE := by rw [← un_abs, za, Int.natAbs_mul]; rfl
  have hsp : ONE = 2 ^ (K - 6) * 2 ^ 6 := by rw [one_pow, ← Nat.pow_add]; congr 1
  have hW : val 52 (rg (fz p)) * ONE = (p.natAbs * 2 ^ (K - 6)) * 2 ^ (6 + K) := by
    rw [hva, Nat.pow_add, ← one_pow]
    rw [show p.natAbs * ONE * ONE = p.natAbs * (2 ^ (K - 6) * 2 ^ 6) * ONE by rw [← hsp]]
    simp only [Nat.mul_assoc]
  have hs := small_word p.natAbs (K - 6) (by omega) (by omega)
  refine ⟨_, fun w => run_float_arith w .quo 24 .f64 (fz p) C64 _ (div_fin (fz p) C64 ua ub fa fb _ (6 + K) hvb hW), U_word _ _ (rnd_lt _), fin_word _ _ hs.2, ?_⟩
  rw [rg_word _ _ (rnd_lt _), hs.1]
  rw [hsp, ← Nat.mul_assoc, Nat.mul_comm 512, Nat.mul_assoc, Nat.mul_comm]
  exact Nat.mul_le_mul_left _ (by omega)
end Go.Proofs.Ytelalledjbeenaa

namespace Go.Proofs.Ytelalledjbeenaa
open Go.RowKit Fl

theorem eqF2 (w : World) (x y : Nat) (h : (FloatKind.f64.format.order x y == some .eq) = true) : (Op.equalIn 9999 24 (.float .f64 x) (.float .f64 y)).run Try.prog w = .ok true w := by
  have hu : Try.prog.underlying 24 = some (.float .f64) := Try.underlying24
  unfold Op.equalIn
  simp only [Sem.run_bind, run_underlying hu, Result.andThen_ok, Sem.run_pure]
  rw [show Op.floatEq FloatKind.f64 x y = true from h, if_pos trivial]
  rfl
abbrev L31 : Nat := 2147483648
structure PR (A0 A1 A2 A3 a0 a1 a2 a3 : Int) : Prop where
  p0 : PWh A0 a0 2147483648
  p1 : PWh A1 a1 2147483648
  p2 : PWh A2 a2 2147483648
  p3 : PWh A3 a3 2147483648
section
variable {A0 A1 A2 A3 B0 B1 B2 B3 a0 a1 a2 a3 b0 b1 b2 b3 : Int} (hA : PR A0 A1 A2 A3 a0 a1 a2 a3) (hB : PR B0 B1 B2 B3 b0 b1 b2 b3)
include hA hB
theorem uni0 : PWh (minP (loP A0 A2) (loP B0 B2)) (min (loZ a0 a2) (loZ b0 b2)) 17179869184 := ((lo_place hA.p0 hA.p2 (by decide)).min (lo_place hB.p0 hB.p2 (by decide))).mono (by decide)
theorem uni1 : PWh (minP (loP A1 A3) (loP B1 B3)) (min (loZ a1 a3) (loZ b1 b3)) 17179869184 := ((lo_place hA.p1 hA.p3 (by decide)).min (lo_place hB.p1 hB.p3 (by decide))).mono (by decide)
theorem uni2 : PWh (opP .sub (maxP (hiP A0 A2) (hiP B0 B2)) (minP (loP A0 A2) (loP B0 B2))) (max (hiZ a0 a2) (hiZ b0 b2) - min (loZ a0 a2) (loZ b0 b2)) 17179869184 :=
  (((hi_place hA.p0 hA.p2 (by decide)).max (hi_place hB.p0 hB.p2 (by decide))).sub ((lo_place hA.p0 hA.p2 (by decide)).min (lo_place hB.p0 hB.p2 (by decide))) gok_one (by decide)).mono (by decide)
theorem uni3 : PWh (opP .sub (maxP (hiP A1 A3) (hiP B1 B3)) (minP (loP A1 A3) (loP B1 B3))) (max (hiZ a1 a3) (hiZ b1 b3) - min (loZ a1 a3) (loZ b1 b3)) 17179869184 :=
  (((hi_place hA.p1 hA.p3 (by decide)).max (hi_place hB.p1 hB.p3 (by decide))).sub ((lo_place hA.p1 hA.p3 (by decide)).min (lo_place hB.p1 hB.p3 (by decide))) gok_one (by decide)).mono (by decide)
theorem mee0 : PWh (maxP (loP A0 A2) (loP B0 B2)) (max (loZ a0 a2) (loZ b0 b2)) 17179869184 := ((lo_place hA.p0 hA.p2 (by decide)).max (lo_place hB.p0 hB.p2 (by decide))).mono (by decide)
theorem mee1 : PWh (maxP (loP A1 A3) (loP B1 B3)) (max (loZ a1 a3) (loZ b1 b3)) 17179869184 := ((lo_place hA.p1 hA.p3 (by decide)).max (lo_place hB.p1 hB.p3 (by decide))).mono (by decide)
theorem mee2 : PWh (opP .sub (minP (hiP A0 A2) (hiP B0 B2)) (maxP (loP A0 A2) (loP B0 B2))) (min (hiZ a0 a2) (hiZ b0 b2) - max (loZ a0 a2) (loZ b0 b2)) 17179869184 :=
  (((hi_place hA.p0 hA.p2 (by decide)).min (hi_place hB.p0 hB.p2 (by decide))).sub ((lo_place hA.p0 hA.p2 (by decide)).max (lo_place hB.p0 hB.p2 (by decide))) gok_one (by decide)).mono (by decide)
theorem mee3 : PWh (opP .sub (minP (hiP A1 A3) (hiP B1 B3)) (maxP (loP A1 A3) (loP B1 B3))) (min (hiZ a1 a3) (hiZ b1 b3) - max (loZ a1 a3) (loZ b1 b3)) 17179869184 :=
  (((hi_place hA.p1 hA.p3 (by decide)).min (hi_place hB.p1 hB.p3 (by decide))).sub ((lo_place hA.p1 hA.p3 (by decide)).max (lo_place hB.p1 hB.p3 (by decide))) gok_one (by decide)).mono (by decide)
end
theorem feq_of {P Q y z : Int} {B C : Nat} (h : PWh P y B) (k : PWh Q z C) (e : y = z) : feqP P Q = true := by rw [h.eq k]; exact decide_eq_true e
theorem ord_of {x y : Nat} {P Q : Int} (hx : RV x P) (hy : RV y Q) (h : feqP P Q = true) : (FloatKind.f64.format.order x y == some .eq) = true := (RV.eq_ hx hy).trans h
/-- unions told either way -/
theorem uni_same {A0 A1 A2 A3 B0 B1 B2 B3 a0 a1 a2 a3 b0 b1 b2 b3 : Int} (hA : PR A0 A1 A2 A3 a0 a1 a2 a3) (hB : PR B0 B1 B2 B3 b0 b1 b2 b3) {u0 u1 u2 u3 v0 v1 v2 v3 : Nat}
    (hu0 : RV u0 (minP (loP A0 A2) (loP B0 B2))) (hu1 : RV u1 (minP (loP A1 A3) (loP B1 B3))) (hu2 : RV u2 (opP .sub (maxP (hiP A0 A2) (hiP B0 B2)) (minP (loP A0 A2) (loP B0 B2)))) (hu3 : RV u3 (opP .sub (maxP (hiP A1 A3) (hiP B1 B3)) (minP (loP A1 A3) (loP B1 B3))))
    (hv0 : RV v0 (minP (loP B0 B2) (loP A0 A2))) (hv1 : RV v1 (minP (loP B1 B3) (loP A1 A3))) (hv2 : RV v2 (opP .sub (maxP (hiP B0 B2) (hiP A0 A2)) (minP (loP B0 B2) (loP A0 A2)))) (hv3 : RV v3 (opP .sub (maxP (hiP B1 B3) (hiP A1 A3)) (minP (loP B1 B3) (loP A1 A3)))) :
    (FloatKind.f64.format.order u0 v0 == some .eq) = true ∧ (FloatKind.f64.format.order u1 v1 == some .eq) = true ∧ (FloatKind.f64.format.order u2 v2 == some .eq) = true ∧ (FloatKind.f64.format.order u3 v3 == some .eq) = true :=
  ⟨ord_of hu0 hv0 (feq_of (uni0 hA hB) (uni0 hB hA) (by omega)), ord_of hu1 hv1 (feq_of (uni1 hA hB) (uni1 hB hA) (by omega)), ord_of hu2 hv2 (feq_of (uni2 hA hB) (uni2 hB hA) (by omega)), ord_of hu3 hv3 (feq_of (uni3 hA hB) (uni3 hB hA) (by omega))⟩
def MeetB (A0 A1 A2 A3 B0 B1 B2 B3 : Int) (a b c d : Nat) : Prop := if meetB A0 A1 A2 A3 B0 B1 B2 B3 then RV a (maxP (loP A0 A2) (loP B0 B2)) ∧ RV b (maxP (loP A1 A3) (loP B1 B3)) ∧ RV c (opP .sub (minP (hiP A0 A2) (hiP B0 B2)) (maxP (loP A0 A2) (loP B0 B2))) ∧ RV d (opP .sub (minP (hiP A1 A3) (hiP B1 B3)) (maxP (loP A1 A3) (loP B1 B3))) else RV a 0 ∧ RV b 0 ∧ RV c 0 ∧ RV d 0
theorem zero_place : PWh 0 0 0 := ⟨⟨0, by unfold U; decide, by decide, by decide, by rw [Int.zero_mul]; decide⟩, Nat.le_refl _⟩
theorem meet_same {A0 A1 A2 A3 B0 B1 B2 B3 a0 a1 a2 a3 b0 b1 b2 b3 : Int} (hA : PR A0 A1 A2 A3 a0 a1 a2 a3) (hB : PR B0 B1 B2 B3 b0 b1 b2 b3) {m0 m1 m2 m3 n0 n1 n2 n3 : Nat} (hm : MeetB A0 A1 A2 A3 B0 B1 B2 B3 m0 m1 m2 m3) (hn : MeetB A0 A1 A2 A3 B0 B1 B2 B3 n0 n1 n2 n3) :
    (FloatKind.f64.format.order m0 n0 == some .eq) = true ∧ (FloatKind.f64.format.order m1 n1 == some .eq) = true ∧ (FloatKind.f64.format.order m2 n2 == some .eq) = true ∧ (FloatKind.f64.format.order m3 n3 == some .eq) = true := by
  unfold MeetB at hm hn
  by_cases c : meetB A0 A1 A2 A3 B0 B1 B2 B3 = true
  · rw [if_pos c] at hm hn
    exact ⟨ord_of hm.1 hn.1 (feq_of (mee0 hA hB) (mee0 hA hB) rfl), ord_of hm.2.1 hn.2.1 (feq_of (mee1 hA hB) (mee1 hA hB) rfl), ord_of hm.2.2.1 hn.2.2.1 (feq_of (mee2 hA hB) (mee2 hA hB) rfl), ord_of hm.2.2.2 hn.2.2.2 (feq_of (mee3 hA hB) (mee3 hA hB) rfl)⟩
  · rw [if_neg c] at hm hn
    have z := feq_of zero_place zero_place rfl
    exact ⟨ord_of hm.1 hn.1 z, ord_of hm.2.1 hn.2.1 z, ord_of hm.2.2.1 hn.2.2.1 z, ord_of hm.2.2.2 hn.2.2.2 z⟩
theorem rv_place {x : Nat} {P y : Int} {B : Nat} (h : RV x P) (k : PWh P y B) : PWh (pl x) y B := by rw [h.2]; exact k
/-- a point in both's union -/
theorem uni_has {A0 A1 A2 A3 B0 B1 B2 B3 a0 a1 a2 a3 b0 b1 b2 b3 X Y x y : Int} (hA : PR A0 A1 A2 A3 a0 a1 a2 a3) (hB : PR B0 B1 B2 B3 b0 b1 b2 b3) (hx : PWh X x 32768) (hy : PWh Y y 32768) {u0 u1 u2 u3 : Nat}
    (hu0 : RV u0 (minP (loP A0 A2) (loP B0 B2))) (hu1 : RV u1 (minP (loP A1 A3) (loP B1 B3))) (hu2 : RV u2 (opP .sub (maxP (hiP A0 A2) (hiP B0 B2)) (minP (loP A0 A2) (loP B0 B2)))) (hu3 : RV u3 (opP .sub (maxP (hiP A1 A3) (hiP B1 B3)) (minP (loP A1 A3) (loP B1 B3)))) :
    hasP (pl u0) (pl u1) (pl u2) (pl u3) X Y = hasZ (min (loZ a0 a2) (loZ b0 b2)) (min (loZ a1 a3) (loZ b1 b3)) (max (hiZ a0 a2) (hiZ b0 b2) - min (loZ a0 a2) (loZ b0 b2)) (max (hiZ a1 a3) (hiZ b1 b3) - min (loZ a1 a3) (loZ b1 b3)) x y :=
  has_place (rv_place hu0 (uni0 hA hB)) (rv_place hu1 (uni1 hA hB)) (rv_place hu2 (uni2 hA hB)) (rv_place hu3 (uni3 hA hB)) hx hy (by decide)
theorem mee_has {A0 A1 A2 A3 B0 B1 B2 B3 a0 a1 a2 a3 b0 b1 b2 b3 X Y x y : Int} (hA : PR A0 A1 A2 A3 a0 a1 a2 a3) (hB : PR B0 B1 B2 B3 b0 b1 b2 b3) (hx : PWh X x 32768) (hy : PWh Y y 32768) {m0 m1 m2 m3 : Nat} (hm : MeetB A0 A1 A2 A3 B0 B1 B2 B3 m0 m1 m2 m3) (hb : meetB A0 A1 A2 A3 B0 B1 B2 B3 = true) :
    hasP (pl m0) (pl m1) (pl m2) (pl m3) X Y = hasZ (max (loZ a0 a2) (loZ b0 b2)) (max (loZ a1 a3) (loZ b1 b3)) (min (hiZ a0 a2) (hiZ b0 b2) - max (loZ a0 a2) (loZ b0 b2)) (min (hiZ a1 a3) (hiZ b1 b3) - max (loZ a1 a3) (loZ b1 b3)) x y := by
  unfold MeetB at hm
  rw [if_pos hb] at hm
  exact has_place (rv_place hm.1 (mee0 hA hB)) (rv_place hm.2.1 (mee1 hA hB)) (rv_place hm.2.2.1 (mee2 hA hB)) (rv_place hm.2.2.2 (mee3 hA hB)) hx hy (by decide)
theorem meetU {A0 A1 A2 A3 B0 B1 B2 B3 : Int} {m0 m1 m2 m3 : Nat} (hm : MeetB A0 A1 A2 A3 B0 B1 B2 B3 m0 m1 m2 m3) : U m0 ∧ U m1 ∧ U m2 ∧ U m3 := by
  unfold MeetB at hm
  split at hm <;> exact ⟨hm.1.1, hm.2.1.1, hm.2.2.1.1, hm.2.2.2.1⟩
end Go.Proofs.Ytelalledjbeenaa
