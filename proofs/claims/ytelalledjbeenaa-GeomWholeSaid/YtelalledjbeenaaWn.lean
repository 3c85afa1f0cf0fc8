/- Places of whole numbers: order, least and greatest, rows, determinants: plain laws. -/
import Derived.Test.YtelalledjbeenaaWd
import Derived.Test.YtelalledjbeenaaInvA
namespace Go.Proofs.Ytelalledjbeenaa
open Go.RowKit Fl

theorem PU.nan {p z : Int} (h : PU p z) : p ≠ 9223372036854775807 := by
  obtain ⟨r, hu, hf, rfl, _⟩ := h
  intro e
  have := isN_iff_pl r
  rw [e] at this
  have h2 := fin_not_nan hf
  simp_all
theorem PU.zk_lt {p q y z : Int} (h : PU p y) (k : PU q z) : zk p < zk q ↔ y < z := by
  obtain ⟨r, hu, hf, rfl, rfl⟩ := h
  obtain ⟨s, hu2, hf2, rfl, rfl⟩ := k
  rw [← skey_pl (fin_not_nan hf), ← skey_pl (fin_not_nan hf2)]
  exact (un_lt_iff r s).symm
theorem PU.zk_eq {p q y z : Int} (h : PU p y) (k : PU q z) : zk p = zk q ↔ y = z := by
  have h1 := h.zk_lt k
  have h2 := k.zk_lt h
  omega
theorem PU.lt {p q y z : Int} (h : PU p y) (k : PU q z) : fltP p q = decide (y < z) := by
  unfold fltP
  rw [decide_eq_true h.nan, decide_eq_true k.nan, Bool.true_and, Bool.true_and]
  by_cases c : y < z
  · rw [decide_eq_true c, decide_eq_true ((h.zk_lt k).2 c)]
  · rw [decide_eq_false c, decide_eq_false (fun e => c ((h.zk_lt k).1 e))]
theorem PU.le {p q y z : Int} (h : PU p y) (k : PU q z) : fleP p q = decide (y ≤ z) := by
  unfold fleP
  rw [decide_eq_true h.nan, decide_eq_true k.nan, Bool.true_and, Bool.true_and]
  have e := k.zk_lt h
  by_cases c : y ≤ z
  · rw [decide_eq_true c, decide_eq_true (by omega)]
  · rw [decide_eq_false c, decide_eq_false (by omega)]
theorem PU.eq {p q y z : Int} (h : PU p y) (k : PU q z) : feqP p q = decide (y = z) := by
  unfold feqP
  rw [decide_eq_true h.nan, decide_eq_true k.nan, Bool.true_and, Bool.true_and]
  have e := h.zk_eq k
  by_cases c : y = z
  · rw [decide_eq_true c, decide_eq_true (e.2 c)]
  · rw [decide_eq_false c, decide_eq_false (fun x => c (e.1 x))]
theorem PU.zk_mono {p q y z : Int} (h : PU p y) (k : PU q z) : p < q → y ≤ z := by
  intro c
  have := k.zk_lt h
  unfold zk at this
  omega
theorem PU.min {p q y z : Int} (h : PU p y) (k : PU q z) : PU (minP p q) (min y z) := by
  unfold minP
  have h1 := h.nan
  have h2 := k.nan
  rw [if_neg (by omega)]
  by_cases c : q < p
  · rw [if_pos c]
    have := k.zk_mono h c
    rw [show Min.min y z = z by omega]; exact k
  · rw [if_neg c]
    rcases Int.lt_or_eq_of_le (show p ≤ q by omega) with e | e
    · have := h.zk_mono k e
      rw [show Min.min y z = y by omega]; exact h
    · subst e
      have := h.unique k
      rw [show Min.min y z = y by omega]; exact h
theorem PU.max {p q y z : Int} (h : PU p y) (k : PU q z) : PU (maxP p q) (max y z) := by
  unfold maxP
  have h1 := h.nan
  have h2 := k.nan
  rw [if_neg (by omega)]
  by_cases c : p < q
  · rw [if_pos c]
    have := h.zk_mono k c
    rw [show Max.max y z = z by omega]; exact k
  · rw [if_neg c]
    rcases Int.lt_or_eq_of_le (show q ≤ p by omega) with e | e
    · have := k.zk_mono h e
      rw [show Max.max y z = y by omega]; exact h
    · subst e
      have := h.unique k
      rw [show Max.max y z = y by omega]; exact h
theorem one_posi : (0 : Int) < ONEi := by have := one_pos; unfold ONEi; omega
/-- a place of a whole number -/
abbrev PWh (p z : Int) (B : Nat) : Prop := PB ONEi p z B
theorem mul_one_lt {y z : Int} : y * ONEi < z * ONEi ↔ y < z := Int.mul_lt_mul_right one_posi
theorem mul_one_eq {y z : Int} : y * ONEi = z * ONEi ↔ y = z := Int.mul_eq_mul_right_iff (by have := one_posi; omega)
theorem PB.lt {p q y z : Int} {B C : Nat} (h : PWh p y B) (k : PWh q z C) : fltP p q = decide (y < z) := by
  rw [h.pu.lt k.pu]; exact decide_eq_decide.2 mul_one_lt
theorem PB.le' {p q y z : Int} {B C : Nat} (h : PWh p y B) (k : PWh q z C) : fleP p q = decide (y ≤ z) := by
  rw [h.pu.le k.pu]; exact decide_eq_decide.2 (Int.mul_le_mul_right one_posi)
theorem PB.eq {p q y z : Int} {B C : Nat} (h : PWh p y B) (k : PWh q z C) : feqP p q = decide (y = z) := by
  rw [h.pu.eq k.pu]; exact decide_eq_decide.2 mul_one_eq
theorem PB.min {p q y z : Int} {B C : Nat} (h : PWh p y B) (k : PWh q z C) : PWh (minP p q) (min y z) (max B C) := by
  have l1 := h.le
  have l2 := k.le
  refine ⟨?_, by omega⟩
  have e := h.pu.min k.pu
  rwa [show (Min.min (y * ONEi) (z * ONEi)) = Min.min y z * ONEi from by
    rcases Int.le_total y z with c | c
    · rw [show Min.min y z = y by omega]; have := Int.mul_le_mul_of_nonneg_right c (Int.le_of_lt one_posi); omega
    · rw [show Min.min y z = z by omega]; have := Int.mul_le_mul_of_nonneg_right c (Int.le_of_lt one_posi); omega] at e
theorem PB.max {p q y z : Int} {B C : Nat} (h : PWh p y B) (k : PWh q z C) : PWh (maxP p q) (max y z) (max B C) := by
  have l1 := h.le
  have l2 := k.le
  refine ⟨?_, by omega⟩
  have e := h.pu.max k.pu
  rwa [show (Max.max (y * ONEi) (z * ONEi)) = Max.max y z * ONEi from by
    rcases Int.le_total y z with c | c
    · rw [show Max.max y z = z by omega]; have := Int.mul_le_mul_of_nonneg_right c (Int.le_of_lt one_posi); omega
    · rw [show Max.max y z = y by omega]; have := Int.mul_le_mul_of_nonneg_right c (Int.le_of_lt one_posi); omega] at e

/-- a row times four numbers -/
def rowZ (m : Nat → Int) (i : Nat) (x y z w : Int) : Int := m i * x + m (4 + i) * y + m (8 + i) * z + m (12 + i) * w
theorem PB.row {G : Int} {m a : Nat → Int} {i : Nat} {x y z w X Y Z W : Int} {B C : Nat} (hg : GOK G) (hi : i < 4) (hm : ∀ j, j < 16 → PWh (m j) (a j) B) (hx : PB G x X C) (hy : PB G y Y C) (hz : PB G z Z C) (hw : PB G w W C)
    (hb : 4 * (B * C) ≤ 9007199254740992) : PB G (rowP m i x y z w) (rowZ a i X Y Z W) (4 * (B * C)) := by
  unfold rowP rowZ
  have h0 := (hm i (by omega)).mul hx hg (by omega)
  have h1 := (hm (4 + i) (by omega)).mul hy hg (by omega)
  have h2 := (hm (8 + i) (by omega)).mul hz hg (by omega)
  have h3 := (hm (12 + i) (by omega)).mul hw hg (by omega)
  exact (((h0.add h1 hg (by omega)).add h2 hg (by omega)).add h3 hg (by omega)).mono (by omega)
def timesZ (a b : Nat → Int) (k : Nat) : Int := rowZ a (k % 4) (b (4 * (k / 4))) (b (4 * (k / 4) + 1)) (b (4 * (k / 4) + 2)) (b (4 * (k / 4) + 3))
/-- a product less another -/
theorem PB.less {p q r s x y z w : Int} {A B : Nat} (h : PWh p x A) (k : PWh q y B) (h' : PWh r z A) (k' : PWh s w B) (hb : 2 * (A * B) ≤ 9007199254740992) : PWh (lessP p q r s) (x * y - z * w) (2 * (A * B)) := by
  unfold lessP
  exact ((h.mul k gok_one (by omega)).sub (h'.mul k' gok_one (by omega)) gok_one (by omega)).mono (by omega)
def mi0 (a : Nat → Int) : Nat → Int
  | 0 => a 0 * a 5 - a 1 * a 4
  | 1 => a 0 * a 6 - a 2 * a 4
  | 2 => a 0 * a 7 - a 3 * a 4
  | 3 => a 1 * a 6 - a 2 * a 5
  | 4 => a 1 * a 7 - a 3 * a 5
  | _ => a 2 * a 7 - a 3 * a 6
def mi8 (a : Nat → Int) : Nat → Int
  | 0 => a 8 * a 13 - a 9 * a 12
  | 1 => a 8 * a 14 - a 10 * a 12
  | 2 => a 8 * a 15 - a 11 * a 12
  | 3 => a 9 * a 14 - a 10 * a 13
  | 4 => a 9 * a 15 - a 11 * a 13
  | _ => a 10 * a 15 - a 11 * a 14
theorem PB.m0 {m a : Nat → Int} {B : Nat} (hm : ∀ j, j < 16 → PWh (m j) (a j) B) (hb : 2 * (B * B) ≤ 9007199254740992) {k : Nat} (hk : k < 6) : PWh (minors0 m k) (mi0 a k) (2 * (B * B)) := by
  have g := fun j h => hm j h
  rcases (by omega : k = 0 ∨ k = 1 ∨ k = 2 ∨ k = 3 ∨ k = 4 ∨ k = 5) with rfl | rfl | rfl | rfl | rfl | rfl
  · exact (g 0 (by omega)).less (g 5 (by omega)) (g 1 (by omega)) (g 4 (by omega)) hb
  · exact (g 0 (by omega)).less (g 6 (by omega)) (g 2 (by omega)) (g 4 (by omega)) hb
  · exact (g 0 (by omega)).less (g 7 (by omega)) (g 3 (by omega)) (g 4 (by omega)) hb
  · exact (g 1 (by omega)).less (g 6 (by omega)) (g 2 (by omega)) (g 5 (by omega)) hb
  · exact (g 1 (by omega)).less (g 7 (by omega)) (g 3 (by omega)) (g 5 (by omega)) hb
  · exact (g 2 (by omega)).less (g 7 (by omega)) (g 3 (by omega)) (g 6 (by omega)) hb
theorem PB.m8 {m a : Nat → Int} {B : Nat} (hm : ∀ j, j < 16 → PWh (m j) (a j) B) (hb : 2 * (B * B) ≤ 9007199254740992) {k : Nat} (hk : k < 6) : PWh (minors8 m k) (mi8 a k) (2 * (B * B)) := by
  have g := fun j h => hm j h
  rcases (by omega : k = 0 ∨ k = 1 ∨ k = 2 ∨ k = 3 ∨ k = 4 ∨ k = 5) with rfl | rfl | rfl | rfl | rfl | rfl
  · exact (g 8 (by omega)).less (g 13 (by omega)) (g 9 (by omega)) (g 12 (by omega)) hb
  · exact (g 8 (by omega)).less (g 14 (by omega)) (g 10 (by omega)) (g 12 (by omega)) hb
  · exact (g 8 (by omega)).less (g 15 (by omega)) (g 11 (by omega)) (g 12 (by omega)) hb
  · exact (g 9 (by omega)).less (g 14 (by omega)) (g 10 (by omega)) (g 13 (by omega)) hb
  · exact (g 9 (by omega)).less (g 15 (by omega)) (g 11 (by omega)) (g 13 (by omega)) hb
  · exact (g 10 (by omega)).less (g 15 (by omega)) (g 11 (by omega)) (g 14 (by omega)) hb
/-- a determinant -/
def detZ (a : Nat → Int) : Int := mi0 a 0 * mi8 a 5 - mi0 a 1 * mi8 a 4 + mi0 a 2 * mi8 a 3 + mi0 a 3 * mi8 a 2 - mi0 a 4 * mi8 a 1 + mi0 a 5 * mi8 a 0
def detB (B : Nat) : Nat := 6 * (2 * (B * B) * (2 * (B * B)))
theorem PB.det {m a : Nat → Int} {B : Nat} (hm : ∀ j, j < 16 → PWh (m j) (a j) B) (hb : detB B ≤ 9007199254740992) (hb2 : 2 * (B * B) ≤ 9007199254740992) : PWh (detP m) (detZ a) (detB B) := by
  have g := fun k (h : k < 6) => PB.m0 hm hb2 h
  have e := fun k (h : k < 6) => PB.m8 hm hb2 h
  unfold detB at *
  generalize 2 * (B * B) = D at *
  have p := fun i j (hi : i < 6) (hj : j < 6) => (g i hi).mul (e j hj) gok_one (by omega)
  unfold detP detZ
  exact (((((((p 0 5 (by omega) (by omega)).sub (p 1 4 (by omega) (by omega)) gok_one (by omega)).add (p 2 3 (by omega) (by omega)) gok_one (by omega)).add (p 3 2 (by omega) (by omega)) gok_one (by omega)).sub (p 4 1 (by omega) (by omega)) gok_one (by omega)).add (p 5 0 (by omega) (by omega)) gok_one (by omega))).mono (by omega)
/-- what an inverse has above its determinant -/
def upZ (a b c x y z : Int) : Int := a * b - c * x + y * z
def downZ (a b c x y z : Int) : Int := a * b - c * x - y * z
theorem PB.up {p q r s t u a b c x y z : Int} {A B : Nat} (h1 : PWh p a A) (h2 : PWh q b B) (h3 : PWh r c A) (h4 : PWh s x B) (h5 : PWh t y A) (h6 : PWh u z B) (hb : 3 * (A * B) ≤ 9007199254740992) : PWh (upP p q r s t u) (upZ a b c x y z) (3 * (A * B)) := by
  unfold upP upZ
  exact ((h1.less h2 h3 h4 (by omega)).add (h5.mul h6 gok_one (by omega)) gok_one (by omega)).mono (by omega)
theorem PB.down {p q r s t u a b c x y z : Int} {A B : Nat} (h1 : PWh p a A) (h2 : PWh q b B) (h3 : PWh r c A) (h4 : PWh s x B) (h5 : PWh t y A) (h6 : PWh u z B) (hb : 3 * (A * B) ≤ 9007199254740992) : PWh (downP p q r s t u) (downZ a b c x y z) (3 * (A * B)) := by
  unfold downP downZ
  exact ((h1.less h2 h3 h4 (by omega)).sub (h5.mul h6 gok_one (by omega)) gok_one (by omega)).mono (by omega)
def adjZ (m : Nat → Int) : Nat → Int
  | 0 => upZ (m 5) (mi8 m 5) (m 6) (mi8 m 4) (m 7) (mi8 m 3)
  | 1 => downZ (m 2) (mi8 m 4) (m 1) (mi8 m 5) (m 3) (mi8 m 3)
  | 2 => upZ (m 13) (mi0 m 5) (m 14) (mi0 m 4) (m 15) (mi0 m 3)
  | 3 => downZ (m 10) (mi0 m 4) (m 9) (mi0 m 5) (m 11) (mi0 m 3)
  | 4 => downZ (m 6) (mi8 m 2) (m 4) (mi8 m 5) (m 7) (mi8 m 1)
  | 5 => upZ (m 0) (mi8 m 5) (m 2) (mi8 m 2) (m 3) (mi8 m 1)
  | 6 => downZ (m 14) (mi0 m 2) (m 12) (mi0 m 5) (m 15) (mi0 m 1)
  | 7 => upZ (m 8) (mi0 m 5) (m 10) (mi0 m 2) (m 11) (mi0 m 1)
  | 8 => upZ (m 4) (mi8 m 4) (m 5) (mi8 m 2) (m 7) (mi8 m 0)
  | 9 => downZ (m 1) (mi8 m 2) (m 0) (mi8 m 4) (m 3) (mi8 m 0)
  | 10 => upZ (m 12) (mi0 m 4) (m 13) (mi0 m 2) (m 15) (mi0 m 0)
  | 11 => downZ (m 9) (mi0 m 2) (m 8) (mi0 m 4) (m 11) (mi0 m 0)
  | 12 => downZ (m 5) (mi8 m 1) (m 4) (mi8 m 3) (m 6) (mi8 m 0)
  | 13 => upZ (m 0) (mi8 m 3) (m 1) (mi8 m 1) (m 2) (mi8 m 0)
  | 14 => downZ (m 13) (mi0 m 1) (m 12) (mi0 m 3) (m 14) (mi0 m 0)
  | _ => upZ (m 8) (mi0 m 3) (m 9) (mi0 m 1) (m 10) (mi0 m 0)
theorem PB.adj {m a : Nat → Int} {B : Nat} (hm : ∀ j, j < 16 → PWh (m j) (a j) B) (hb : 3 * (B * (2 * (B * B))) ≤ 9007199254740992) (hb2 : 2 * (B * B) ≤ 9007199254740992) {k : Nat} (hk : k < 16) : PWh (adjP m k) (adjZ a k) (3 * (B * (2 * (B * B)))) := by
  have d := fun k (h : k < 6) => PB.m0 hm hb2 h
  have e := fun k (h : k < 6) => PB.m8 hm hb2 h
  rcases (by omega : k = 0 ∨ k = 1 ∨ k = 2 ∨ k = 3 ∨ k = 4 ∨ k = 5 ∨ k = 6 ∨ k = 7 ∨ k = 8 ∨ k = 9 ∨ k = 10 ∨ k = 11 ∨ k = 12 ∨ k = 13 ∨ k = 14 ∨ k = 15) with rfl | rfl | rfl | rfl | rfl | rfl | rfl | rfl | rfl | rfl | rfl | rfl | rfl | rfl | rfl | rfl
  · exact PB.up (hm 5 (by omega)) (e 5 (by omega)) (hm 6 (by omega)) (e 4 (by omega)) (hm 7 (by omega)) (e 3 (by omega)) hb
  · exact PB.down (hm 2 (by omega)) (e 4 (by omega)) (hm 1 (by omega)) (e 5 (by omega)) (hm 3 (by omega)) (e 3 (by omega)) hb
  · exact PB.up (hm 13 (by omega)) (d 5 (by omega)) (hm 14 (by omega)) (d 4 (by omega)) (hm 15 (by omega)) (d 3 (by omega)) hb
  · exact PB.down (hm 10 (by omega)) (d 4 (by omega)) (hm 9 (by omega)) (d 5 (by omega)) (hm 11 (by omega)) (d 3 (by omega)) hb
  · exact PB.down (hm 6 (by omega)) (e 2 (by omega)) (hm 4 (by omega)) (e 5 (by omega)) (hm 7 (by omega)) (e 1 (by omega)) hb
  · exact PB.up (hm 0 (by omega)) (e 5 (by omega)) (hm 2 (by omega)) (e 2 (by omega)) (hm 3 (by omega)) (e 1 (by omega)) hb
  · exact PB.down (hm 14 (by omega)) (d 2 (by omega)) (hm 12 (by omega)) (d 5 (by omega)) (hm 15 (by omega)) (d 1 (by omega)) hb
  · exact PB.up (hm 8 (by omega)) (d 5 (by omega)) (hm 10 (by omega)) (d 2 (by omega)) (hm 11 (by omega)) (d 1 (by omega)) hb
  · exact PB.up (hm 4 (by omega)) (e 4 (by omega)) (hm 5 (by omega)) (e 2 (by omega)) (hm 7 (by omega)) (e 0 (by omega)) hb
  · exact PB.down (hm 1 (by omega)) (e 2 (by omega)) (hm 0 (by omega)) (e 4 (by omega)) (hm 3 (by omega)) (e 0 (by omega)) hb
  · exact PB.up (hm 12 (by omega)) (d 4 (by omega)) (hm 13 (by omega)) (d 2 (by omega)) (hm 15 (by omega)) (d 0 (by omega)) hb
  · exact PB.down (hm 9 (by omega)) (d 2 (by omega)) (hm 8 (by omega)) (d 4 (by omega)) (hm 11 (by omega)) (d 0 (by omega)) hb
  · exact PB.down (hm 5 (by omega)) (e 1 (by omega)) (hm 4 (by omega)) (e 3 (by omega)) (hm 6 (by omega)) (e 0 (by omega)) hb
  · exact PB.up (hm 0 (by omega)) (e 3 (by omega)) (hm 1 (by omega)) (e 1 (by omega)) (hm 2 (by omega)) (e 0 (by omega)) hb
  · exact PB.down (hm 13 (by omega)) (d 1 (by omega)) (hm 12 (by omega)) (d 3 (by omega)) (hm 14 (by omega)) (d 0 (by omega)) hb
  · exact PB.up (hm 8 (by omega)) (d 3 (by omega)) (hm 9 (by omega)) (d 1 (by omega)) (hm 10 (by omega)) (d 0 (by omega)) hb
theorem det_times (a b : Nat → Int) : detZ (timesZ a b) = detZ a * detZ b := det_mul (a 0) (a 1) (a 2) (a 3) (a 4) (a 5) (a 6) (a 7) (a 8) (a 9) (a 10) (a 11) (a 12) (a 13) (a 14) (a 15) (b 0) (b 1) (b 2) (b 3) (b 4) (b 5) (b 6) (b 7) (b 8) (b 9) (b 10) (b 11) (b 12) (b 13) (b 14) (b 15)
theorem adj_r0 (a : Nat → Int) : timesZ a (adjZ a) 0 = detZ a := adjR0 (a 0) (a 1) (a 2) (a 3) (a 4) (a 5) (a 6) (a 7) (a 8) (a 9) (a 10) (a 11) (a 12) (a 13) (a 14) (a 15)
theorem adj_l0 (a : Nat → Int) : timesZ (adjZ a) a 0 = detZ a := adjL0 (a 0) (a 1) (a 2) (a 3) (a 4) (a 5) (a 6) (a 7) (a 8) (a 9) (a 10) (a 11) (a 12) (a 13) (a 14) (a 15)
theorem adj_r1 (a : Nat → Int) : timesZ a (adjZ a) 1 = 0 := adjR1 (a 0) (a 1) (a 2) (a 3) (a 4) (a 5) (a 6) (a 7) (a 8) (a 9) (a 10) (a 11) (a 12) (a 13) (a 14) (a 15)
theorem adj_l1 (a : Nat → Int) : timesZ (adjZ a) a 1 = 0 := adjL1 (a 0) (a 1) (a 2) (a 3) (a 4) (a 5) (a 6) (a 7) (a 8) (a 9) (a 10) (a 11) (a 12) (a 13) (a 14) (a 15)
theorem adj_r2 (a : Nat → Int) : timesZ a (adjZ a) 2 = 0 := adjR2 (a 0) (a 1) (a 2) (a 3) (a 4) (a 5) (a 6) (a 7) (a 8) (a 9) (a 10) (a 11) (a 12) (a 13) (a 14) (a 15)
theorem adj_l2 (a : Nat → Int) : timesZ (adjZ a) a 2 = 0 := adjL2 (a 0) (a 1) (a 2) (a 3) (a 4) (a 5) (a 6) (a 7) (a 8) (a 9) (a 10) (a 11) (a 12) (a 13) (a 14) (a 15)
theorem adj_r3 (a : Nat → Int) : timesZ a (adjZ a) 3 = 0 := adjR3 (a 0) (a 1) (a 2) (a 3) (a 4) (a 5) (a 6) (a 7) (a 8) (a 9) (a 10) (a 11) (a 12) (a 13) (a 14) (a 15)
theorem adj_l3 (a : Nat → Int) : timesZ (adjZ a) a 3 = 0 := adjL3 (a 0) (a 1) (a 2) (a 3) (a 4) (a 5) (a 6) (a 7) (a 8) (a 9) (a 10) (a 11) (a 12) (a 13) (a 14) (a 15)
theorem adj_r4 (a : Nat → Int) : timesZ a (adjZ a) 4 = 0 := adjR4 (a 0) (a 1) (a 2) (a 3) (a 4) (a 5) (a 6) (a 7) (a 8) (a 9) (a 10) (a 11) (a 12) (a 13) (a 14) (a 15)
theorem adj_l4 (a : Nat → Int) : timesZ (adjZ a) a 4 = 0 := adjL4 (a 0) (a 1) (a 2) (a 3) (a 4) (a 5) (a 6) (a 7) (a 8) (a 9) (a 10) (a 11) (a 12) (a 13) (a 14) (a 15)
theorem adj_r5 (a : Nat → Int) : timesZ a (adjZ a) 5 = detZ a := adjR5 (a 0) (a 1) (a 2) (a 3) (a 4) (a 5) (a 6) (a 7) (a 8) (a 9) (a 10) (a 11) (a 12) (a 13) (a 14) (a 15)
theorem adj_l5 (a : Nat → Int) : timesZ (adjZ a) a 5 = detZ a := adjL5 (a 0) (a 1) (a 2) (a 3) (a 4) (a 5) (a 6) (a 7) (a 8) (a 9) (a 10) (a 11) (a 12) (a 13) (a 14) (a 15)
theorem adj_r6 (a : Nat → Int) : timesZ a (adjZ a) 6 = 0 := adjR6 (a 0) (a 1) (a 2) (a 3) (a 4) (a 5) (a 6) (a 7) (a 8) (a 9) (a 10) (a 11) (a 12) (a 13) (a 14) (a 15)
theorem adj_l6 (a : Nat → Int) : timesZ (adjZ a) a 6 = 0 := adjL6 (a 0) (a 1) (a 2) (a 3) (a 4) (a 5) (a 6) (a 7) (a 8) (a 9) (a 10) (a 11) (a 12) (a 13) (a 14) (a 15)
theorem adj_r7 (a : Nat → Int) : timesZ a (adjZ a) 7 = 0 := adjR7 (a 0) (a 1) (a 2) (a 3) (a 4) (a 5) (a 6) (a 7) (a 8) (a 9) (a 10) (a 11) (a 12) (a 13) (a 14) (a 15)
theorem adj_l7 (a : Nat → Int) : timesZ (adjZ a) a 7 = 0 := adjL7 (a 0) (a 1) (a 2) (a 3) (a 4) (a 5) (a 6) (a 7) (a 8) (a 9) (a 10) (a 11) (a 12) (a 13) (a 14) (a 15)
theorem adj_r8 (a : Nat → Int) : timesZ a (adjZ a) 8 = 0 := adjR8 (a 0) (a 1) (a 2) (a 3) (a 4) (a 5) (a 6) (a 7) (a 8) (a 9) (a 10) (a 11) (a 12) (a 13) (a 14) (a 15)
theorem adj_l8 (a : Nat → Int) : timesZ (adjZ a) a 8 = 0 := adjL8 (a 0) (a 1) (a 2) (a 3) (a 4) (a 5) (a 6) (a 7) (a 8) (a 9) (a 10) (a 11) (a 12) (a 13) (a 14) (a 15)
theorem adj_r9 (a : Nat → Int) : timesZ a (adjZ a) 9 = 0 := adjR9 (a 0) (a 1) (a 2) (a 3) (a 4) (a 5) (a 6) (a 7) (a 8) (a 9) (a 10) (a 11) (a 12) (a 13) (a 14) (a 15)
theorem adj_l9 (a : Nat → Int) : timesZ (adjZ a) a 9 = 0 := adjL9 (a 0) (a 1) (a 2) (a 3) (a 4) (a 5) (a 6) (a 7) (a 8) (a 9) (a 10) (a 11) (a 12) (a 13) (a 14) (a 15)
theorem adj_r10 (a : Nat → Int) : timesZ a (adjZ a) 10 = detZ a := adjR10 (a 0) (a 1) (a 2) (a 3) (a 4) (a 5) (a 6) (a 7) (a 8) (a 9) (a 10) (a 11) (a 12) (a 13) (a 14) (a 15)
theorem adj_l10 (a : Nat → Int) : timesZ (adjZ a) a 10 = detZ a := adjL10 (a 0) (a 1) (a 2) (a 3) (a 4) (a 5) (a 6) (a 7) (a 8) (a 9) (a 10) (a 11) (a 12) (a 13) (a 14) (a 15)
theorem adj_r11 (a : Nat → Int) : timesZ a (adjZ a) 11 = 0 := adjR11 (a 0) (a 1) (a 2) (a 3) (a 4) (a 5) (a 6) (a 7) (a 8) (a 9) (a 10) (a 11) (a 12) (a 13) (a 14) (a 15)
theorem adj_l11 (a : Nat → Int) : timesZ (adjZ a) a 11 = 0 := adjL11 (a 0) (a 1) (a 2) (a 3) (a 4) (a 5) (a 6) (a 7) (a 8) (a 9) (a 10) (a 11) (a 12) (a 13) (a 14) (a 15)
theorem adj_r12 (a : Nat → Int) : timesZ a (adjZ a) 12 = 0 := adjR12 (a 0) (a 1) (a 2) (a 3) (a 4) (a 5) (a 6) (a 7) (a 8) (a 9) (a 10) (a 11) (a 12) (a 13) (a 14) (a 15)
theorem adj_l12 (a : Nat → Int) : timesZ (adjZ a) a 12 = 0 := adjL12 (a 0) (a 1) (a 2) (a 3) (a 4) (a 5) (a 6) (a 7) (a 8) (a 9) (a 10) (a 11) (a 12) (a 13) (a 14) (a 15)
theorem adj_r13 (a : Nat → Int) : timesZ a (adjZ a) 13 = 0 := adjR13 (a 0) (a 1) (a 2) (a 3) (a 4) (a 5) (a 6) (a 7) (a 8) (a 9) (a 10) (a 11) (a 12) (a 13) (a 14) (a 15)
theorem adj_l13 (a : Nat → Int) : timesZ (adjZ a) a 13 = 0 := adjL13 (a 0) (a 1) (a 2) (a 3) (a 4) (a 5) (a 6) (a 7) (a 8) (a 9) (a 10) (a 11) (a 12) (a 13) (a 14) (a 15)
theorem adj_r14 (a : Nat → Int) : timesZ a (adjZ a) 14 = 0 := adjR14 (a 0) (a 1) (a 2) (a 3) (a 4) (a 5) (a 6) (a 7) (a 8) (a 9) (a 10) (a 11) (a 12) (a 13) (a 14) (a 15)
theorem adj_l14 (a : Nat → Int) : timesZ (adjZ a) a 14 = 0 := adjL14 (a 0) (a 1) (a 2) (a 3) (a 4) (a 5) (a 6) (a 7) (a 8) (a 9) (a 10) (a 11) (a 12) (a 13) (a 14) (a 15)
theorem adj_r15 (a : Nat → Int) : timesZ a (adjZ a) 15 = detZ a := adjR15 (a 0) (a 1) (a 2) (a 3) (a 4) (a 5) (a 6) (a 7) (a 8) (a 9) (a 10) (a 11) (a 12) (a 13) (a 14) (a 15)
theorem adj_l15 (a : Nat → Int) : timesZ (adjZ a) a 15 = detZ a := adjL15 (a 0) (a 1) (a 2) (a 3) (a 4) (a 5) (a 6) (a 7) (a 8) (a 9) (a 10) (a 11) (a 12) (a 13) (a 14) (a 15)
theorem adj_r (a : Nat → Int) (k : Nat) (hk : k < 16) : timesZ a (adjZ a) k = if k % 5 = 0 then detZ a else 0 := by
  rcases (by omega : k = 0 ∨ k = 1 ∨ k = 2 ∨ k = 3 ∨ k = 4 ∨ k = 5 ∨ k = 6 ∨ k = 7 ∨ k = 8 ∨ k = 9 ∨ k = 10 ∨ k = 11 ∨ k = 12 ∨ k = 13 ∨ k = 14 ∨ k = 15) with rfl | rfl | rfl | rfl | rfl | rfl | rfl | rfl | rfl | rfl | rfl | rfl | rfl | rfl | rfl | rfl
  · exact adj_r0 a
  · exact adj_r1 a
  · exact adj_r2 a
  · exact adj_r3 a
  · exact adj_r4 a
  · exact adj_r5 a
  · exact adj_r6 a
  · exact adj_r7 a
  · exact adj_r8 a
  · exact adj_r9 a
  · exact adj_r10 a
  · exact adj_r11 a
  · exact adj_r12 a
  · exact adj_r13 a
  · exact adj_r14 a
  · exact adj_r15 a
theorem adj_l (a : Nat → Int) (k : Nat) (hk : k < 16) : timesZ (adjZ a) a k = if k % 5 = 0 then detZ a else 0 := by
  rcases (by omega : k = 0 ∨ k = 1 ∨ k = 2 ∨ k = 3 ∨ k = 4 ∨ k = 5 ∨ k = 6 ∨ k = 7 ∨ k = 8 ∨ k = 9 ∨ k = 10 ∨ k = 11 ∨ k = 12 ∨ k = 13 ∨ k = 14 ∨ k = 15) with rfl | rfl | rfl | rfl | rfl | rfl | rfl | rfl | rfl | rfl | rfl | rfl | rfl | rfl | rfl | rfl
  · exact adj_l0 a
  · exact adj_l1 a
  · exact adj_l2 a
  · exact adj_l3 a
  · exact adj_l4 a
  · exact adj_l5 a
  · exact adj_l6 a
  · exact adj_l7 a
  · exact adj_l8 a
  · exact adj_l9 a
  · exact adj_l10 a
  · exact adj_l11 a
  · exact adj_l12 a
  · exact adj_l13 a
  · exact adj_l14 a
  · exact adj_l15 a
theorem twice_0 (a b : Nat → Int) (x y z w : Int) : rowZ (timesZ a b) 0 x y z w = rowZ a 0 (rowZ b 0 x y z w) (rowZ b 1 x y z w) (rowZ b 2 x y z w) (rowZ b 3 x y z w) := twice0 (a 0) (a 1) (a 2) (a 3) (a 4) (a 5) (a 6) (a 7) (a 8) (a 9) (a 10) (a 11) (a 12) (a 13) (a 14) (a 15) (b 0) (b 1) (b 2) (b 3) (b 4) (b 5) (b 6) (b 7) (b 8) (b 9) (b 10) (b 11) (b 12) (b 13) (b 14) (b 15) x y z w
theorem twice_1 (a b : Nat → Int) (x y z w : Int) : rowZ (timesZ a b) 1 x y z w = rowZ a 1 (rowZ b 0 x y z w) (rowZ b 1 x y z w) (rowZ b 2 x y z w) (rowZ b 3 x y z w) := twice1 (a 0) (a 1) (a 2) (a 3) (a 4) (a 5) (a 6) (a 7) (a 8) (a 9) (a 10) (a 11) (a 12) (a 13) (a 14) (a 15) (b 0) (b 1) (b 2) (b 3) (b 4) (b 5) (b 6) (b 7) (b 8) (b 9) (b 10) (b 11) (b 12) (b 13) (b 14) (b 15) x y z w
theorem twice_2 (a b : Nat → Int) (x y z w : Int) : rowZ (timesZ a b) 2 x y z w = rowZ a 2 (rowZ b 0 x y z w) (rowZ b 1 x y z w) (rowZ b 2 x y z w) (rowZ b 3 x y z w) := twice2 (a 0) (a 1) (a 2) (a 3) (a 4) (a 5) (a 6) (a 7) (a 8) (a 9) (a 10) (a 11) (a 12) (a 13) (a 14) (a 15) (b 0) (b 1) (b 2) (b 3) (b 4) (b 5) (b 6) (b 7) (b 8) (b 9) (b 10) (b 11) (b 12) (b 13) (b 14) (b 15) x y z w
theorem twice_3 (a b : Nat → Int) (x y z w : Int) : rowZ (timesZ a b) 3 x y z w = rowZ a 3 (rowZ b 0 x y z w) (rowZ b 1 x y z w) (rowZ b 2 x y z w) (rowZ b 3 x y z w) := twice3 (a 0) (a 1) (a 2) (a 3) (a 4) (a 5) (a 6) (a 7) (a 8) (a 9) (a 10) (a 11) (a 12) (a 13) (a 14) (a 15) (b 0) (b 1) (b 2) (b 3) (b 4) (b 5) (b 6) (b 7) (b 8) (b 9) (b 10) (b 11) (b 12) (b 13) (b 14) (b 15) x y z w
end Go.Proofs.Ytelalledjbeenaa
