/- A row of seventy words of 32 bits in memory; a number added to it at a place. -/
import Derived.Test.YthohhepoddnbnaaGreatDoorMgCbQ
import Derived.Test.YthohhepoddnbnaaGreatDoorAccE
import Derived.StillTailTactics
import Derived.Deep.DeepCutAuto
import Derived.Deep.CutBlock
import Derived.Deep.QuietTactic
import Derived.BigQuiet
namespace Go.Proofs.YthohhepoddnbnaaGreatDoor
open Go.RowKit Fl

theorem b_low32 (x : Nat) (h : U x) : bits .and .u64 (x : Int) 4294967295 = ((x % 4294967296 : Nat) : Int) := by
  have := h.lt
  rw [show (4294967295 : Int) = ((4294967295 : Nat) : Int) from rfl, u64_and_nat _ _ h.lt (by omega)]
  congr 1
  exact Nat.and_two_pow_sub_one_eq_mod x 32
/-- the words of a row, one by one -/
def URow (w : World) (b o : Nat) (f : Nat → Nat) : Prop := ∀ j, j < 70 → w.cell? ⟨b, o + j, none⟩ = some (.int .u32 (f j : Nat)) ∧ w.frozen? ⟨b, o + j, none⟩ = false
/-- only cells lo .. hi of block b are others -/
structure OnlyC (b lo hi : Nat) (w w' : World) : Prop where
  only : Only b w w'
  cell : ∀ j, j < lo ∨ hi ≤ j → w'.cell? ⟨b, j, none⟩ = w.cell? ⟨b, j, none⟩
  fro : ∀ j, w'.frozen? ⟨b, j, none⟩ = w.frozen? ⟨b, j, none⟩
theorem OnlyC.refl (b lo hi : Nat) (w : World) : OnlyC b lo hi w w := ⟨Only.refl b w, fun _ _ => rfl, fun _ => rfl⟩
theorem OnlyC.trans {b lo hi : Nat} {w w1 w2 : World} (h : OnlyC b lo hi w w1) (k : OnlyC b lo hi w1 w2) : OnlyC b lo hi w w2 :=
  ⟨h.only.trans k.only, fun j hj => (k.cell j hj).trans (h.cell j hj), fun j => (k.fro j).trans (h.fro j)⟩
theorem OnlyC.below {b lo hi B : Nat} {w w1 w2 : World} (h : OnlyC b lo hi w w1) (k : Below B w1 w2) (hb : b < B) (hB : w.heap.size ≤ B) : OnlyC b lo hi w w2 :=
  ⟨⟨k.os.trans h.only.os, k.tape.trans h.only.tape, k.output.trans h.only.output, Nat.le_trans h.only.size k.size, fun i hi hne => (k.block i (by omega)).trans (h.only.block i hi hne)⟩,
   fun j hj => (k.cell (p := ⟨b, j, none⟩) hb).trans (h.cell j hj), fun j => (k.frozen (p := ⟨b, j, none⟩) hb).trans (h.fro j)⟩
theorem OnlyC.set {b lo hi k : Nat} {w w' : World} (h : OnlyC b lo hi w w') (hk : lo ≤ k ∧ k < hi) (v : Value) : OnlyC b lo hi w (w'.setCell ⟨b, k, none⟩ v) :=
  ⟨h.only.setCell v, fun j hj => (World.cell?_setCell_other w' _ _ _ (by intro e; cases e; omega)).trans (h.cell j hj), fun j => (World.frozen?_setCell ..).trans (h.fro j)⟩
theorem OnlyC.fresh {b lo hi c o : Nat} {w w' : World} (h : OnlyC b lo hi w w') (hc : w.heap.size ≤ c) (hb : b ≠ c) (v : Value) : OnlyC b lo hi w (w'.setCell ⟨c, o, none⟩ v) :=
  ⟨h.only.fresh hc v, fun j hj => (World.cell?_setCell_other w' _ _ _ (by intro e; cases e; exact hb rfl)).trans (h.cell j hj), fun j => (World.frozen?_setCell ..).trans (h.fro j)⟩
theorem URow.below {w w' : World} {b o B : Nat} {f : Nat → Nat} (h : URow w b o f) (hb : Below B w w') (hB : b < B) : URow w' b o f := fun j hj => by
  rw [hb.cell (p := ⟨b, o + j, none⟩) hB, hb.frozen (p := ⟨b, o + j, none⟩) hB]; exact h j hj
theorem URow.other {w : World} {b o : Nat} {f : Nat → Nat} (h : URow w b o f) (p : Addr) (v : Value) (hp : p.block ≠ b) : URow (w.setCell p v) b o f := fun j hj => by
  refine ⟨?_, (World.frozen?_setCell ..).trans (h j hj).2⟩
  rw [World.cell?_setCell_other w _ _ _ (by intro e; subst e; exact hp rfl)]; exact (h j hj).1
theorem URow.set {w : World} {b o : Nat} {f : Nat → Nat} (h : URow w b o f) (k : Nat) (hk : k < 70) (v : Nat) : URow (w.setCell ⟨b, o + k, none⟩ (.int .u32 (v : Nat))) b o (fun j => if j = k then v else f j) := fun j hj => by
  obtain ⟨h1, h2⟩ := h j hj
  refine ⟨?_, (World.frozen?_setCell ..).trans h2⟩
  by_cases e : j = k
  · subst e
    show _ = some (Value.int .u32 ((if j = j then v else f j : Nat) : Int))
    rw [if_pos rfl]
    exact World.cell?_setCell_same w _ _ h1
  · show _ = some (Value.int .u32 ((if j = k then v else f j : Nat) : Int))
    rw [if_neg e, World.cell?_setCell_other w _ _ _ (by intro h; injection h with _ h; omega)]; exact h1
theorem URow.congr {w : World} {b o : Nat} {f g : Nat → Nat} (h : URow w b o f) (e : ∀ j, j < 70 → f j = g j) : URow w b o g := fun j hj => by rw [← e j hj]; exact h j hj
/-- three cells of 64 bits -/
def Parts3 (w : World) (c : Nat) (p q r : Int) : Prop := (w.cell? ⟨c, 0, none⟩ = some (.int .u64 p) ∧ w.cell? ⟨c, 1, none⟩ = some (.int .u64 q) ∧ w.cell? ⟨c, 2, none⟩ = some (.int .u64 r)) ∧ w.frozen? ⟨c, 0, none⟩ = false ∧ w.frozen? ⟨c, 1, none⟩ = false ∧ w.frozen? ⟨c, 2, none⟩ = false
theorem Parts3.below {w w' : World} {c B : Nat} {p q r : Int} (h : Parts3 w c p q r) (hb : Below B w w') (hB : c < B) : Parts3 w' c p q r := by
  unfold Parts3
  rw [hb.cell (p := ⟨c, 0, none⟩) hB, hb.cell (p := ⟨c, 1, none⟩) hB, hb.cell (p := ⟨c, 2, none⟩) hB, hb.frozen (p := ⟨c, 0, none⟩) hB, hb.frozen (p := ⟨c, 1, none⟩) hB, hb.frozen (p := ⟨c, 2, none⟩) hB]
  exact h

theorem w_p0 (v s : Nat) (_ : U v) : bits .and .u64 (IntKind.u64.wrap ((v : Int) * 2 ^ s)) 4294967295 = ((dg (v * 2 ^ s) 0 : Nat) : Int) := by
  have e : IntKind.u64.wrap ((v : Int) * 2 ^ s) = ((v * 2 ^ s % 18446744073709551616 : Nat) : Int) := by
    rw [IntKind.wrap_u64]
    have : ((v : Int) * 2 ^ s) = ((v * 2 ^ s : Nat) : Int) := by push_cast; rfl
    rw [this]; omega
  rw [e, b_low32 _ (Nat.mod_lt _ (by decide))]
  congr 1
  unfold dg
  simp only [Nat.mul_zero, Nat.pow_zero, Nat.div_one]
  omega
theorem sh_div (v s t : Nat) (h : s ≤ t) : v * 2 ^ s / 2 ^ t = v / 2 ^ (t - s) := by
  have e : 2 ^ t = 2 ^ (t - s) * 2 ^ s := by rw [← Nat.pow_add]; congr 1; omega
  rw [e, Nat.mul_div_mul_right _ _ (Nat.two_pow_pos s)]
theorem cast_div (v t : Nat) : (v : Int) / 2 ^ t = ((v / 2 ^ t : Nat) : Int) := by push_cast; rfl
theorem w_p1 (v s : Nat) (hv : U v) (hs : s < 32) : bits .and .u64 ((v : Int) / 2 ^ (32 - s)) 4294967295 = ((dg (v * 2 ^ s) 1 : Nat) : Int) := by
  rw [cast_div, b_low32 _ (Nat.lt_of_le_of_lt (Nat.div_le_self _ _) hv)]
  unfold dg
  rw [sh_div v s (32 * 1) (by omega)]
theorem w_p1' (v : Nat) (hv : U v) : (v : Int) / 4294967296 = ((dg (v * 2 ^ 0) 1 : Nat) : Int) := by
  have := hv.lt
  unfold dg
  rw [Nat.pow_zero, Nat.mul_one, show 2 ^ (32 * 1) = 4294967296 by decide]
  omega
theorem w_p2 (v s : Nat) (hv : U v) (hs : s < 32) : (v : Int) / 2 ^ (64 - s) = ((dg (v * 2 ^ s) 2 : Nat) : Int) := by
  rw [cast_div]
  unfold dg
  rw [sh_div v s (32 * 2) (by omega)]
  congr 1
  have h1 : v / 2 ^ (64 - s) < 2 ^ s := by
    rw [Nat.div_lt_iff_lt_mul (Nat.two_pow_pos _), ← Nat.pow_add, show s + (64 - s) = 64 by omega]
    exact hv
  have h2 : 2 ^ s ≤ 2 ^ 32 := Nat.pow_le_pow_right (by decide) (by omega)
  exact (Nat.mod_eq_of_lt (by omega)).symm
theorem w_p2' (v : Nat) (hv : U v) : (0 : Int) = ((dg (v * 2 ^ 0) 2 : Nat) : Int) := by
  have := hv.lt
  unfold dg
  rw [Nat.pow_zero, Nat.mul_one, show 2 ^ (32 * 2) = 18446744073709551616 by decide]
  omega

theorem w_t2 (a c : Nat) (ha : a < 4294967296) (hc : c ≤ 1) : IntKind.u64.wrap (IntKind.u64.wrap (a : Int) + (c : Int)) = ((a + c : Nat) : Int) := by
  rw [IntKind.wrap_u64, IntKind.wrap_u64]; omega
theorem w_t3 (a c x : Nat) (ha : a < 4294967296) (hc : c ≤ 1) (hx : x < 4294967296) : IntKind.u64.wrap (IntKind.u64.wrap (IntKind.u64.wrap (a : Int) + (c : Int)) + (x : Int)) = ((a + c + x : Nat) : Int) := by
  rw [w_t2 a c ha hc, IntKind.wrap_u64]; omega
theorem w_and (t : Nat) (h : U t) : bits .and .u64 (t : Int) 4294967295 % 4294967296 = ((t % 4294967296 : Nat) : Int) := by
  rw [b_low32 t h]; omega
theorem Parts3.other {w : World} {c b k : Nat} {p q r : Int} (h : Parts3 w c p q r) (hc : b ≠ c) (v : Value) : Parts3 (w.setCell ⟨b, k, none⟩ v) c p q r := by
  have e : ∀ j, (w.setCell ⟨b, k, none⟩ v).cell? ⟨c, j, none⟩ = w.cell? ⟨c, j, none⟩ := fun j => World.cell?_setCell_other w _ _ _ (by intro e; injection e with e _; exact hc e)
  have f : ∀ j, (w.setCell ⟨b, k, none⟩ v).frozen? ⟨c, j, none⟩ = w.frozen? ⟨c, j, none⟩ := fun j => World.frozen?_setCell ..
  unfold Parts3
  rw [e, e, e, f, f, f]
  exact h
theorem u_start {w : World} {b o n : Nat} (hr : URow w b o (dg n)) (hb : b < w.heap.size) {p q r P Q R : Int} (hp : p = P) (hq : q = Q) (hR : r = R) :
    URow (w.alloc (.cells #[.int .u64 p, .int .u64 q, .int .u64 r] 159)).drew b o (dg n) ∧ OnlyC b o (o + 70) w (w.alloc (.cells #[.int .u64 p, .int .u64 q, .int .u64 r] 159)).drew ∧ Parts3 (w.alloc (.cells #[.int .u64 p, .int .u64 q, .int .u64 r] 159)).drew w.heap.size P Q R ∧ w.heap.size < (w.alloc (.cells #[.int .u64 p, .int .u64 q, .int .u64 r] 159)).drew.heap.size := by
  subst hp hq hR
  have hbl : Below w.heap.size w (w.alloc (.cells #[.int .u64 p, .int .u64 q, .int .u64 r] 159)).drew := ((Below.refl w.heap.size w).alloc (Nat.le_refl _) _).drew
  have c := fun j => World.cell?_alloc_new w #[.int .u64 p, .int .u64 q, .int .u64 r] 159 j
  exact ⟨hr.below hbl hb, (OnlyC.refl _ _ _ _).below hbl hb (Nat.le_refl _), ⟨⟨(c 0).trans rfl, (c 1).trans rfl, (c 2).trans rfl⟩, by simp [go_sem], by simp [go_sem], by simp [go_sem]⟩, by simp⟩

set_option maxRecDepth 100000 in
set_option maxHeartbeats 4000000 in
theorem c166' (b o n v k s : Nat) (a : Int) (w : World) (hv : U v) (ha : 0 ≤ a) (ha2 : a < 2240) (e1 : a / 32 = (k : Int)) (e2 : a % 32 = (s : Int)) (hs : s < 32) (hk : k < 70) (hr : URow w b o (dg n)) (hb : b < w.heap.size) :
    Calls Tryz.prog 89 #[.pointer (some ⟨b, o, none⟩), .int .u64 v, .int .i64 a] w fun e w' => e = .returned (.tuple #[]) ∧ URow w' b o (dg (n + v * 2 ^ s * 2 ^ (32 * k))) ∧ OnlyC b o (o + 70) w w' := by
  have HR := Lib.hid hr
  have HV := Lib.hid hv
  have h32 : (s : Int) < 32 := by omega
  have HB := Lib.hid hb
  have HS := Lib.hid hs
  have HK := Lib.hid hk
  have hvi : (v : Int) < 18446744073709551616 := by have := hv.lt; omega
  clear hr hv hb hs hk
  go_enter Tryz.func89, Tryz.ntmps89
  go_upto_region 2 with fail
  rw [e1, e2]
  go_region
  go_upto_if 27 with fail
  clear e1 e2 ha ha2
  go_cut [] (fun wx => Hid (URow wx b o (dg n) ∧ OnlyC b o (o + 70) w wx ∧ Parts3 wx w.heap.size ((dg (v * 2 ^ s) 0 : Nat) : Int) ((dg (v * 2 ^ s) 1 : Nat) : Int) ((dg (v * 2 ^ s) 2 : Nat) : Int) ∧ w.heap.size < wx.heap.size))
  case first =>
    by_cases hz : s = 0
    · have hd : decide (0 < s) = false := decide_eq_false (by omega)
      rw [hd]
      have E0 := Lib.hid (w_p0 v s HV.out)
      have E1 := Lib.hid (show (v : Int) / 4294967296 = ((dg (v * 2 ^ s) 1 : Nat) : Int) by rw [hz]; exact w_p1' v HV.out)
      have E2 := Lib.hid (show (0 : Int) = ((dg (v * 2 ^ s) 2 : Nat) : Int) by rw [hz]; exact w_p2' v HV.out)
      clear hz
      go_wp2
      go_meet
      exact Lib.hid (u_start HR.out HB.out E0.out E1.out E2.out)
    · have hd : decide (0 < s) = true := decide_eq_true (by omega)
      rw [hd]
      have E0 := Lib.hid (w_p0 v s HV.out)
      have E1 := Lib.hid (w_p1 v s HV.out HS.out)
      have E2 := Lib.hid (w_p2 v s HV.out HS.out)
      clear hz
      go_wp2
      go_meet
      exact Lib.hid (u_start HR.out HB.out E0.out E1.out E2.out)
  case rest =>
  have hX : v * 2 ^ s < 2 ^ (32 * 3) := by
    have h1 : 2 ^ s ≤ 2 ^ 32 := Nat.pow_le_pow_right (by decide) (by have := HS.out; omega)
    have h2 := HV.out.lt
    calc v * 2 ^ s ≤ v * 2 ^ 32 := Nat.mul_le_mul_left v h1
      _ < 18446744073709551616 * 2 ^ 32 := Nat.mul_lt_mul_of_pos_right h2 (by decide)
      _ = 2 ^ (32 * 3) := by decide
  have HX := Lib.hid hX
  clear hX hvi
  generalize hXv : v * 2 ^ s = X at *
  have HXV := Lib.hid hXv
  clear hXv
  have hbc : b ≠ w.heap.size := by have := HB.out; omega
  have HBC := Lib.hid hbc
  clear hbc
  have hkk := HK.out
  have hk0 : (0 : Int) ≤ (k : Int) := by omega
  have hk70 : (k : Int) < 70 := by omega
  clear hkk
  generalize hg : w.heap.size = c at *
  have HG := Lib.hid hg
  clear hg
  go_wp2_with fail
  go_loopw [9, 10] (fun cc ii wx => ∃ i : Nat, ii = .int .i64 (i : Nat) ∧ cc = .int .u64 ((cr n (X * 2 ^ (32 * k)) (k + i) : Nat) : Int) ∧ Hid (k + i ≤ 70) ∧ Hid (URow wx b o (fun j => if j < k + i then dg (n + X * 2 ^ (32 * k)) j else dg n j) ∧ OnlyC b o (o + 70) w wx ∧ Parts3 wx c ((dg X 0 : Nat) : Int) ((dg X 1 : Nat) : Int) ((dg X 2 : Nat) : Int) ∧ c < wx.heap.size)) (fun _ ii _ => 70 - (intOf ii).toNat)
  case atStart =>
    refine ⟨0, rfl, ?_, Lib.hid (by have := HK.out; omega), Lib.hid ?_⟩
    · rw [Nat.add_zero, cr_low _ _ _ (Nat.mul_mod_left _ _)]; rfl
    · refine ⟨hcut.out.1.congr fun j hj => ?_, hcut.out.2.1, hcut.out.2.2.1, hcut.out.2.2.2⟩
      by_cases h : j < k + 0
      · rw [if_pos h, dg_add, dg_low X k j (by omega), cr_low _ _ _ ?_]
        · have := dg_lt n j
          omega
        · have e : X * 2 ^ (32 * k) = X * 2 ^ (32 * (k - j)) * 2 ^ (32 * j) := by rw [Nat.mul_assoc, ← Nat.pow_add]; congr 2; omega
          rw [e, Nat.mul_mod_left]
      · rw [if_neg h]
  case round =>
    obtain ⟨i, rfl, rfl, hki, hI⟩ := hrel
    clear hcut
    have hi0 : (0 : Int) ≤ (i : Int) := by omega
    by_cases hlt : k + i < 70
    · have hlti : (k : Int) + (i : Int) < 70 := by omega
      have HLT := Lib.hid hlt
      obtain ⟨cN, fN⟩ := hI.out.1 (k + i) hlt
      have cN : wr.cell? ⟨b, o + (k + i), none⟩ = some (.int .u32 ((dg n (k + i) : Nat) : Int)) := cN.trans (by simp)
      have d1 := dg_lt n (k + i)
      have d2 := cr_le n (X * 2 ^ (32 * k)) (k + i)
      by_cases h3 : i < 3
      · have h3i : (i : Int) < 3 := by omega
        have cP : wr.cell? ⟨c, i, none⟩ = some (.int .u64 ((dg X i : Nat) : Int)) := by
          have P := hI.out.2.2.1.1
          rcases (by omega : i = 0 ∨ i = 1 ∨ i = 2) with rfl | rfl | rfl
          · exact P.1
          · exact P.2.1
          · exact P.2.2
        have d3 := dg_lt X i
        have A1 := dg_add n (X * 2 ^ (32 * k)) (k + i)
        have A2 := cr_succ n (X * 2 ^ (32 * k)) (k + i)
        rw [dg_shift X k i] at A1 A2
        have HD := Lib.hid (And.intro A1 (And.intro A2 (And.intro d1 (And.intro d2 d3))))
        clear A1 A2 d1 d2 d3 h3 hlt
        go_wp2_with fail
        go_roundw
        case rel =>
          have D := HD.out
          have hlt := HLT.out
          have hT : U (dg n (k + i) + cr n (X * 2 ^ (32 * k)) (k + i) + dg X i) := by unfold U; omega
          have e1 := w_t3 (dg n (k + i)) (cr n (X * 2 ^ (32 * k)) (k + i)) (dg X i) D.2.2.1 D.2.2.2.1 D.2.2.2.2
          have e2 := w_and (dg n (k + i) + cr n (X * 2 ^ (32 * k)) (k + i) + dg X i) hT
          rw [← e1] at e2
          have e3 : (dg n (k + i) + cr n (X * 2 ^ (32 * k)) (k + i) + dg X i) % 4294967296 = dg (n + X * 2 ^ (32 * k)) (k + i) := by rw [D.1]; congr 1; omega
          have e4 : (dg n (k + i) + cr n (X * 2 ^ (32 * k)) (k + i) + dg X i) / 4294967296 = cr n (X * 2 ^ (32 * k)) (k + (i + 1)) := by rw [show k + (i + 1) = k + i + 1 by omega, D.2.1]; congr 1; omega
          rw [e2, e3]
          refine ⟨i + 1, by go_num, ?_, Lib.hid (by omega), Lib.hid ⟨(hI.out.1.set (k + i) hlt _).congr (fun j hj => ?_), hI.out.2.1.set (by omega) _, hI.out.2.2.1.other HBC.out _, by simpa using hI.out.2.2.2⟩⟩
          · rw [e1, ← e4]; rfl
          · show (if j = k + i then dg (n + X * 2 ^ (32 * k)) (k + i) else if j < k + i then dg (n + X * 2 ^ (32 * k)) j else dg n j) = if j < k + (i + 1) then dg (n + X * 2 ^ (32 * k)) j else dg n j
            by_cases hj : j = k + i
            · rw [if_pos hj, if_pos (by omega), hj]
            · rw [if_neg hj]
              by_cases hj2 : j < k + i
              · rw [if_pos hj2, if_pos (by omega)]
              · rw [if_neg hj2, if_neg (by omega)]
        case measure => have := HLT.out; simp [intOf]; omega
      · have h3i : ¬ (i : Int) < 3 := by omega
        have hx0 : dg X i = 0 := dg_high X i (Nat.lt_of_lt_of_le HX.out (Nat.pow_le_pow_right (by decide) (by omega)))
        have A1 := dg_add n (X * 2 ^ (32 * k)) (k + i)
        have A2 := cr_succ n (X * 2 ^ (32 * k)) (k + i)
        rw [dg_shift X k i, hx0] at A1 A2
        have HD := Lib.hid (And.intro A1 (And.intro A2 (And.intro d1 d2)))
        by_cases hc : cr n (X * 2 ^ (32 * k)) (k + i) = 0
        · have hq : decide (0 < cr n (X * 2 ^ (32 * k)) (k + i)) = false := decide_eq_false (by omega)
          have HC := Lib.hid hc
          have H3 := Lib.hid h3
          clear A1 A2 d1 d2 h3 hlt hx0 hc
          go_wp2_with fail
          refine bodyPost_end (v := .tuple #[]) (results_none rfl _ _ _) rfl ?_
          refine ⟨rfl, ?_, hI.out.2.1⟩
          rw [HXV.out]
          have hXi : X * 2 ^ (32 * k) < 2 ^ (32 * (k + i)) := by
            have h1 : X < 2 ^ (32 * i) := Nat.lt_of_lt_of_le HX.out (Nat.pow_le_pow_right (by decide) (by have := H3.out; omega))
            have h2 : 2 ^ (32 * (k + i)) = 2 ^ (32 * i) * 2 ^ (32 * k) := by rw [← Nat.pow_add]; congr 1; omega
            rw [h2]
            exact Nat.mul_lt_mul_of_pos_right h1 (Nat.two_pow_pos _)
          exact hI.out.1.congr (fun j hj => by
            show (if j < k + i then dg (n + X * 2 ^ (32 * k)) j else dg n j) = dg (n + X * 2 ^ (32 * k)) j
            by_cases h : j < k + i
            · rw [if_pos h]
            · rw [if_neg h, dg_stay _ _ _ hXi HC.out j (by omega)])
        · have hq : decide (0 < cr n (X * 2 ^ (32 * k)) (k + i)) = true := decide_eq_true (by omega)
          clear A1 A2 d1 d2 h3 hlt hx0 hc
          go_wp2_with fail
          go_roundw
          case rel =>
            have D := HD.out
            have hlt := HLT.out
            have hT : U (dg n (k + i) + cr n (X * 2 ^ (32 * k)) (k + i)) := by unfold U; omega
            have e1 := w_t2 (dg n (k + i)) (cr n (X * 2 ^ (32 * k)) (k + i)) D.2.2.1 D.2.2.2
            have e2 := w_and (dg n (k + i) + cr n (X * 2 ^ (32 * k)) (k + i)) hT
            rw [← e1] at e2
            have e3 : (dg n (k + i) + cr n (X * 2 ^ (32 * k)) (k + i)) % 4294967296 = dg (n + X * 2 ^ (32 * k)) (k + i) := by rw [D.1, Nat.add_zero]
            have e4 : (dg n (k + i) + cr n (X * 2 ^ (32 * k)) (k + i)) / 4294967296 = cr n (X * 2 ^ (32 * k)) (k + (i + 1)) := by rw [show k + (i + 1) = k + i + 1 by omega, D.2.1, Nat.add_zero]
            rw [e2, e3]
            refine ⟨i + 1, by go_num, ?_, Lib.hid (by omega), Lib.hid ⟨(hI.out.1.set (k + i) hlt _).congr (fun j hj => ?_), hI.out.2.1.set (by omega) _, hI.out.2.2.1.other HBC.out _, by simpa using hI.out.2.2.2⟩⟩
            · rw [e1, ← e4]; rfl
            · show (if j = k + i then dg (n + X * 2 ^ (32 * k)) (k + i) else if j < k + i then dg (n + X * 2 ^ (32 * k)) j else dg n j) = if j < k + (i + 1) then dg (n + X * 2 ^ (32 * k)) j else dg n j
              by_cases hj : j = k + i
              · rw [if_pos hj, if_pos (by omega), hj]
              · rw [if_neg hj]
                by_cases hj2 : j < k + i
                · rw [if_pos hj2, if_pos (by omega)]
                · rw [if_neg hj2, if_neg (by omega)]
          case measure => have := HLT.out; simp [intOf]; omega
    · have hlti : ¬ (k : Int) + (i : Int) < 70 := by omega
      have hup : (k : Int) + (i : Int) ≤ 70 := by have := hki.out; omega
      have HK2 := Lib.hid (show k + i = 70 by have := hki.out; omega)
      clear hlt
      go_wp2_with fail
      refine bodyPost_end (v := .tuple #[]) (results_none rfl _ _ _) rfl ?_
      refine ⟨rfl, ?_, hI.out.2.1⟩
      rw [HXV.out]
      exact hI.out.1.congr (fun j hj => by
        show (if j < k + i then dg (n + X * 2 ^ (32 * k)) j else dg n j) = dg (n + X * 2 ^ (32 * k)) j
        rw [if_pos (by have := HK2.out; omega)])
/-- a number is added at a place -/
theorem c166 (b o n v p : Nat) (w : World) (hv : U v) (hp : p < 2240) (hr : URow w b o (dg n)) (hb : b < w.heap.size) :
    Calls Tryz.prog 89 #[.pointer (some ⟨b, o, none⟩), .int .u64 v, .int .i64 p] w fun e w' => e = .returned (.tuple #[]) ∧ URow w' b o (dg (n + v * 2 ^ p)) ∧ OnlyC b o (o + 70) w w' := by
  have e : v * 2 ^ p = v * 2 ^ (p % 32) * 2 ^ (32 * (p / 32)) := by rw [Nat.mul_assoc, ← Nat.pow_add]; congr 2; omega
  rw [e]
  exact c166' b o n v (p / 32) (p % 32) p w hv (by omega) (by omega) (by omega) (by omega) (by omega) (by omega) hr hb
end Go.Proofs.YthohhepoddnbnaaGreatDoor
