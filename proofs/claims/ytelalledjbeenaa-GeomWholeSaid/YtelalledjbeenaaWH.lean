/- What GeomWhole says, in places of whole numbers: plain laws. -/
import Derived.Test.YtelalledjbeenaaWF
import Derived.Test.YtelalledjbeenaaGeoV
namespace Go.Proofs.Ytelalledjbeenaa
open Go.RowKit Fl

/-! ### rectangles -/
def R32 : Nat := 2147483648
def loZ (x w : Int) : Int := min x (x + w)
def hiZ (x w : Int) : Int := max x (x + w)
theorem lo_place {p q x w : Int} {B C : Nat} (h : PWh p x B) (k : PWh q w C) (hb : B + C ≤ 9007199254740992) : PWh (loP p q) (loZ x w) (B + C) := (h.min (h.add k gok_one hb)).mono (by omega)
theorem hi_place {p q x w : Int} {B C : Nat} (h : PWh p x B) (k : PWh q w C) (hb : B + C ≤ 9007199254740992) : PWh (hiP p q) (hiZ x w) (B + C) := (h.max (h.add k gok_one hb)).mono (by omega)
def hasZ (a0 a1 a2 a3 x y : Int) : Bool := decide (loZ a0 a2 ≤ x) && decide (x < hiZ a0 a2) && decide (loZ a1 a3 ≤ y) && decide (y < hiZ a1 a3)
theorem has_place {A0 A1 A2 A3 X Y a0 a1 a2 a3 x y : Int} {B C D E : Nat} (h0 : PWh A0 a0 B) (h1 : PWh A1 a1 B) (h2 : PWh A2 a2 C) (h3 : PWh A3 a3 C) (hx : PWh X x D) (hy : PWh Y y E) (hb : B + C ≤ 9007199254740992) :
    hasP A0 A1 A2 A3 X Y = hasZ a0 a1 a2 a3 x y := by
  unfold hasP hasZ
  rw [(lo_place h0 h2 hb).le' hx, hx.lt (hi_place h0 h2 hb), (lo_place h1 h3 hb).le' hy, hy.lt (hi_place h1 h3 hb)]
theorem union_has (a0 a1 a2 a3 b0 b1 b2 b3 x y : Int) (h : hasZ a0 a1 a2 a3 x y = true ∨ hasZ b0 b1 b2 b3 x y = true) :
    hasZ (min (loZ a0 a2) (loZ b0 b2)) (min (loZ a1 a3) (loZ b1 b3)) (max (hiZ a0 a2) (hiZ b0 b2) - min (loZ a0 a2) (loZ b0 b2)) (max (hiZ a1 a3) (hiZ b1 b3) - min (loZ a1 a3) (loZ b1 b3)) x y = true := by
  unfold hasZ loZ hiZ at *
  simp only [Bool.and_eq_true, decide_eq_true_eq] at *
  omega
def meetZ (a0 a1 a2 a3 b0 b1 b2 b3 : Int) : Bool := decide (max (loZ a0 a2) (loZ b0 b2) < min (hiZ a0 a2) (hiZ b0 b2)) && decide (max (loZ a1 a3) (loZ b1 b3) < min (hiZ a1 a3) (hiZ b1 b3))
theorem meet_place {A0 A1 A2 A3 B0 B1 B2 B3 a0 a1 a2 a3 b0 b1 b2 b3 : Int} {B C : Nat} (h0 : PWh A0 a0 B) (h1 : PWh A1 a1 B) (h2 : PWh A2 a2 C) (h3 : PWh A3 a3 C) (k0 : PWh B0 b0 B) (k1 : PWh B1 b1 B) (k2 : PWh B2 b2 C) (k3 : PWh B3 b3 C) (hb : B + C ≤ 9007199254740992) :
    meetB A0 A1 A2 A3 B0 B1 B2 B3 = meetZ a0 a1 a2 a3 b0 b1 b2 b3 := by
  unfold meetB meetZ
  rw [((lo_place h0 h2 hb).max (lo_place k0 k2 hb)).lt ((hi_place h0 h2 hb).min (hi_place k0 k2 hb)), ((lo_place h1 h3 hb).max (lo_place k1 k3 hb)).lt ((hi_place h1 h3 hb).min (hi_place k1 k3 hb))]
theorem meet_has (a0 a1 a2 a3 b0 b1 b2 b3 x y : Int) (h : meetZ a0 a1 a2 a3 b0 b1 b2 b3 = true) :
    (hasZ a0 a1 a2 a3 x y && hasZ b0 b1 b2 b3 x y) = hasZ (max (loZ a0 a2) (loZ b0 b2)) (max (loZ a1 a3) (loZ b1 b3)) (min (hiZ a0 a2) (hiZ b0 b2) - max (loZ a0 a2) (loZ b0 b2)) (min (hiZ a1 a3) (hiZ b1 b3) - max (loZ a1 a3) (loZ b1 b3)) x y := by
  unfold hasZ meetZ loZ hiZ at *
  simp only [Bool.and_eq_true, decide_eq_true_eq] at h
  rw [Bool.eq_iff_iff]
  simp only [Bool.and_eq_true, decide_eq_true_eq]
  omega
theorem meet_not (a0 a1 a2 a3 b0 b1 b2 b3 x y : Int) (h : meetZ a0 a1 a2 a3 b0 b1 b2 b3 = false) : (hasZ a0 a1 a2 a3 x y && hasZ b0 b1 b2 b3 x y) = false := by
  unfold hasZ meetZ loZ hiZ at *
  rw [Bool.eq_false_iff] at *
  simp only [ne_eq, Bool.and_eq_true, decide_eq_true_eq] at *
  omega
/-! ### matrices -/
theorem PB.feq {G p q y : Int} {B C : Nat} (h : PB G p y B) (k : PB G q y C) : feqP p q = true := by rw [h.pu.eq k.pu]; exact decide_eq_true rfl
theorem IM.row {ms : List Nat} {z : Nat → Int} {B i C : Nat} {G x y u v X Y Z W : Int} (h : IM ms z B) (hg : GOK G) (hi : i < 4) (hx : PB G x X C) (hy : PB G y Y C) (hz : PB G u Z C) (hw : PB G v W C) (hb : 4 * (B * C) ≤ 9007199254740992) :
    PB G (rowP (mp ms) i x y u v) (rowZ z i X Y Z W) (4 * (B * C)) := PB.row hg hi (fun j hj => h.at_ j hj) hx hy hz hw hb
/-- a product of two -/
theorem times_place {m b : Nat → Int} {z y : Nat → Int} {B C k : Nat} {G : Int} (hg : GOK G) (hk : k < 16) (hm : ∀ j, j < 16 → PWh (m j) (z j) B) (hy : ∀ j, j < 16 → PB G (b j) (y j) C) (hb : 4 * (B * C) ≤ 9007199254740992) : PB G (timesP m b k) (timesZ z y k) (4 * (B * C)) := by
  unfold timesP timesZ
  exact PB.row hg (by omega) hm (hy _ (by omega)) (hy _ (by omega)) (hy _ (by omega)) (hy _ (by omega)) hb
theorem PB.mulG {G p q y z : Int} {B C : Nat} (h : PB G p y B) (k : PWh q z C) (hg : GOK G) (hb : B * C ≤ 9007199254740992) : PB G (opP .mul p q) (y * z) (B * C) := by
  have l : (y * z).natAbs ≤ B * C := by rw [Int.natAbs_mul]; exact Nat.mul_le_mul h.le k.le
  exact ⟨h.pu.mul k.pu (by simp only [Int.mul_assoc, Int.mul_comm, Int.mul_left_comm]) (rep_unit hg _ (by omega)), l⟩
/-- a product of two, the first one in other units -/
theorem times_placeG {m b : Nat → Int} {z y : Nat → Int} {B C k : Nat} {G : Int} (hg : GOK G) (hk : k < 16) (hm : ∀ j, j < 16 → PB G (m j) (z j) B) (hy : ∀ j, j < 16 → PWh (b j) (y j) C) (hb : 4 * (B * C) ≤ 9007199254740992) : PB G (timesP m b k) (timesZ z y k) (4 * (B * C)) := by
  unfold timesP timesZ rowP rowZ
  have h0 := (hm (k % 4) (by omega)).mulG (hy (4 * (k / 4)) (by omega)) hg (by omega)
  have h1 := (hm (4 + k % 4) (by omega)).mulG (hy (4 * (k / 4) + 1) (by omega)) hg (by omega)
  have h2 := (hm (8 + k % 4) (by omega)).mulG (hy (4 * (k / 4) + 2) (by omega)) hg (by omega)
  have h3 := (hm (12 + k % 4) (by omega)).mulG (hy (4 * (k / 4) + 3) (by omega)) hg (by omega)
  exact (((h0.add h1 hg (by omega)).add h2 hg (by omega)).add h3 hg (by omega)).mono (by omega)
theorem det_place {ms : List Nat} {z : Nat → Int} {B : Nat} (h : IM ms z B) (hB : B ≤ 1024) : PWh (detP (mp ms)) (detZ z) (detB B) := by
  have h1 : B * B ≤ 1024 * 1024 := Nat.mul_le_mul hB hB
  have h2 : 2 * (B * B) * (2 * (B * B)) ≤ 2097152 * 2097152 := Nat.mul_le_mul (by omega) (by omega)
  exact PB.det (fun j hj => h.at_ j hj) (by unfold detB; omega) (by omega)
theorem det_le {ms : List Nat} {z : Nat → Int} {B : Nat} (h : IM ms z B) (hB : B ≤ 1024) : (detZ z).natAbs ≤ 26388279066624 := by
  have h1 : B * B ≤ 1024 * 1024 := Nat.mul_le_mul hB hB
  have h2 : 2 * (B * B) * (2 * (B * B)) ≤ 2097152 * 2097152 := Nat.mul_le_mul (by omega) (by omega)
  have := (det_place h hB).le
  unfold detB at this; omega
theorem invOk_place {D d : Int} {B : Nat} (h : PWh D d B) : invOk D = decide (d ≠ 0) := by
  obtain ⟨r, hu, hf, hp, _⟩ := h.pu
  unfold invOk
  rw [← hp, ← fin_place, hf, hp, Bool.true_and]
  have h0 : PWh 0 0 0 := ⟨⟨0, by unfold U; decide, by decide, by decide, by rw [Int.zero_mul]; decide⟩, Nat.le_refl _⟩
  rw [h.eq h0, ← decide_not]
/-- an inverse by a power of two -/
theorem inv_place {ms os : List Nat} {z : Nat → Int} {B t : Nat} (h : IM ms z B) (hB : B ≤ 1023) (hd : (detZ z).natAbs = 2 ^ t) (ho : ∀ j, j < 16 → mp os j = invP (mp ms) j) :
    ∃ G, GOK G ∧ detZ z * G = ONEi ∧ ∀ j, j < 16 → PB G (mp os j) (adjZ z j) 6423595002 := by
  have hB1 : B ≤ 1024 := by omega
  have hdl := det_le h hB1
  have hK := K_eq
  have ht : t ≤ K := by
    rcases Nat.le_total t 45 with c | c
    · omega
    · exfalso
      have h1 : 2 ^ 45 ≤ 2 ^ t := Nat.pow_le_pow_right (by decide) c
      have h2 : (2 : Nat) ^ 45 = 35184372088832 := by decide
      omega
  have hdp := det_place h hB1
  obtain ⟨G, hG, hDG⟩ : ∃ G, GOK G ∧ detZ z * G = ONEi := by
    have e : ONEi = 2 ^ t * 2 ^ (K - t) := by
      unfold ONEi
      rw [one_pow, ← Int.pow_add, Int.natCast_pow]
      rw [show t + (K - t) = K by omega]; rfl
    rcases Int.natAbs_eq (detZ z) with c | c
    · exact ⟨2 ^ (K - t), ⟨K - t, by omega, .inl rfl⟩, by rw [c, hd, e, Int.natCast_pow]; rfl⟩
    · exact ⟨-(2 ^ (K - t)), ⟨K - t, by omega, .inr rfl⟩, by rw [c, hd, e, Int.neg_mul_neg, Int.natCast_pow]; rfl⟩
  refine ⟨G, hG, hDG, fun j hj => ?_⟩
  have b1 : B * B ≤ 1023 * 1023 := Nat.mul_le_mul hB hB
  have b2 : B * (2 * (B * B)) ≤ 1023 * 2093058 := Nat.mul_le_mul hB (by omega)
  have ha := (PB.adj (fun j hj => h.at_ j hj) (by omega) (by omega) hj : PWh (adjP (mp ms) j) (adjZ z j) _)
  have hal := ha.le
  rw [ho j hj]
  refine ⟨ha.pu.div hdp.pu (t := t + K) ?_ ?_ (rep_unit hG _ (by omega)), by omega⟩
  · rw [Int.natAbs_mul, hd, Nat.pow_add, ← one_pow]; rfl
  · rw [← hDG]
    simp only [Int.mul_assoc, Int.mul_comm, Int.mul_left_comm]
theorem id_place (k : Nat) (hk : k < 16) : PU (mp idL k) (if k % 5 = 0 then ONEi else 0) := by
  have h1 : PU (pl 4607182418800017408) ONEi := ⟨4607182418800017408, by unfold U; decide, by decide, rfl, by
    have e : (4607182418800017408 : Nat) = fz 1 := by decide +kernel
    rw [e]
    obtain ⟨r, hu, hf, hp, hz⟩ := (fz_place 1 1 (by decide) (by decide)).pu
    have e2 : r = fz 1 := by
      rcases (pl_eq_iff hu (fz_U 1)).1 hp with h | ⟨h, _⟩
      · exact h
      · rw [fin_not_nan hf] at h; cases h
    rw [← e2, hz, Int.one_mul]⟩
  have h0 : PU (pl 0) 0 := ⟨0, by unfold U; decide, by decide, rfl, by decide⟩
  rcases (by omega : k = 0 ∨ k = 1 ∨ k = 2 ∨ k = 3 ∨ k = 4 ∨ k = 5 ∨ k = 6 ∨ k = 7 ∨ k = 8 ∨ k = 9 ∨ k = 10 ∨ k = 11 ∨ k = 12 ∨ k = 13 ∨ k = 14 ∨ k = 15) with rfl | rfl | rfl | rfl | rfl | rfl | rfl | rfl | rfl | rfl | rfl | rfl | rfl | rfl | rfl | rfl <;> first | exact h1 | exact h0
theorem undo_r {ms os : List Nat} {z : Nat → Int} {B t : Nat} (h : IM ms z B) (hB : B ≤ 1023) (hd : (detZ z).natAbs = 2 ^ t) (ho : ∀ j, j < 16 → mp os j = invP (mp ms) j) (k : Nat) (hk : k < 16) :
    feqP (timesP (mp ms) (mp os) k) (mp idL k) = true := by
  obtain ⟨G, hG, hDG, hP⟩ := inv_place h hB hd ho
  have hb : 4 * (B * 6423595002) ≤ 9007199254740992 := by omega
  have ht := (times_place hG hk (fun j hj => h.at_ j hj) hP hb).pu
  rw [ht.eq (id_place k hk), adj_r z k hk]
  refine decide_eq_true ?_
  split
  · exact hDG
  · exact Int.zero_mul _
theorem undo_l {ms os : List Nat} {z : Nat → Int} {B t : Nat} (h : IM ms z B) (hB : B ≤ 1023) (hd : (detZ z).natAbs = 2 ^ t) (ho : ∀ j, j < 16 → mp os j = invP (mp ms) j) (k : Nat) (hk : k < 16) :
    feqP (timesP (mp os) (mp ms) k) (mp idL k) = true := by
  obtain ⟨G, hG, hDG, hP⟩ := inv_place h hB hd ho
  have hb : 4 * (6423595002 * B) ≤ 9007199254740992 := by omega
  have ht := (times_placeG hG hk hP (fun j hj => h.at_ j hj) hb).pu
  rw [ht.eq (id_place k hk), adj_l z k hk]
  refine decide_eq_true ?_
  split
  · exact hDG
  · exact Int.zero_mul _
end Go.Proofs.Ytelalledjbeenaa
