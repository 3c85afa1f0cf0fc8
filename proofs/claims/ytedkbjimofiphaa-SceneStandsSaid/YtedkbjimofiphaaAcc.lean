/- An Acc's forty words: plus, negative. -/
import Derived.Test.YtedkbjimofiphaaMgBase
import Derived.Test.YtedkbjimofiphaaMgAlive
import Derived.Deep.MidRow
import Derived.RegionTactic
import Derived.BigRegion
import Derived.ChangeAlike
import Derived.Outline
namespace Go.Proofs.Ytedkbjimofiphaa
open Go.RowKit Fl
/-- the words of a whole number -/
def WL (z : Int) : List Value := (List.range 40).map fun i => .int .u64 (wd z i)
theorem WL_len (z : Int) : (WL z).length = 40 := by simp [WL]
theorem WL_get (z : Int) (i : Nat) (h : i < 40) : (WL z)[i]? = some (.int .u64 (wd z i)) := by simp [WL, h]
theorem x179 (x y c : Int) (hx : 0 ≤ x) (hy : 0 ≤ y) (hc0 : 0 ≤ c) (hc : c ≤ 1) (w : World) : (callFunc 69 #[.int .u64 x, .int .u64 y, .int .u64 c]).run Try.prog w = .ok (.value (.tuple #[.int .u64 ((x + y + c) % 18446744073709551616), .int .u64 ((x + y + c) / 18446744073709551616)])) w := by
  rw [run_callFunc_extern (P := Try.prog) (f := 69) (fn := Try.f69) (e := add64Entry) (by kernel_rfl) (by kernel_rfl) (by kernel_rfl) (by kernel_rfl) (by kernel_rfl)]
  rw [run_add64 x y c hx hy hc0 hc]; rfl
/-- Cells of a block, one by one. -/
def Row (w : World) (b : Nat) (f : Nat → Int) : Prop := ∀ j, j < 40 → w.cell? ⟨b, j, none⟩ = some (.int .u64 (f j)) ∧ w.frozen? ⟨b, j, none⟩ = false
theorem Row.below {w w' : World} {b : Nat} {f : Nat → Int} (h : Row w b f) {B : Nat} (hb : Below B w w') (hB : b < B) : Row w' b f := fun j hj => by
  rw [hb.cell (p := ⟨b, j, none⟩) hB, hb.frozen (p := ⟨b, j, none⟩) hB]; exact h j hj
theorem Row.set {w : World} {b : Nat} {f : Nat → Int} (h : Row w b f) (k : Nat) (hk : k < 40) (v : Int) : Row (w.setCell ⟨b, k, none⟩ (.int .u64 v)) b (fun j => if j = k then v else f j) := by
  intro j hj
  obtain ⟨h1, h2⟩ := h j hj
  refine ⟨?_, ?_⟩
  · show (w.setCell ⟨b, k, none⟩ (.int .u64 v)).cell? ⟨b, j, none⟩ = some (.int .u64 (if j = k then v else f j))
    by_cases e : j = k
    · subst e
      rw [if_pos rfl]
      exact World.cell?_setCell_same w _ _ h1
    · rw [if_neg e, World.cell?_setCell_other w _ _ _ (by intro h; cases h; exact e rfl)]; exact h1
  · rw [World.frozen?_setCell]; exact h2
theorem Row.drew {w : World} {b : Nat} {f : Nat → Int} (h : Row w b f) : Row w.drew b f := fun j hj => h j hj
theorem Row.other {w : World} {b : Nat} {f : Nat → Int} (h : Row w b f) (p : Addr) (v : Value) (hp : p.block ≠ b) : Row (w.setCell p v) b f := fun j hj => by
  refine ⟨?_, ?_⟩
  · rw [World.cell?_setCell_other w _ _ _ (by intro h; subst h; exact hp rfl)]; exact (h j hj).1
  · rw [World.frozen?_setCell]; exact (h j hj).2
theorem row_alloc (w : World) (z : Int) : Row (w.alloc (.cells (WL z).toArray 99)) w.heap.size (wd z) := fun j hj => by
  refine ⟨?_, ?_⟩
  · rw [World.cell?_alloc_new w (WL z).toArray 99 j]
    simpa using WL_get z j hj
  · simp [go_sem]
theorem row_alloc_lt {w : World} {b : Nat} {f : Nat → Int} (h : Row w b f) (hb : b < w.heap.size) (o : Obj) : Row (w.alloc o) b f :=
  h.below ((Below.refl w.heap.size w).alloc (Nat.le_refl _) o) hb
theorem Row.range {w : World} {b : Nat} {z : Int} (h : Row w b (wd z)) : w.rangeAt b 0 (WL z) := fun j v hv => by
  have hj : j < 40 := by have := (List.getElem?_eq_some_iff.1 hv).1; rw [WL_len] at this; exact this
  rw [WL_get z j hj] at hv
  cases hv
  rw [Nat.zero_add]; exact (h j hj).1
theorem Row.there {w : World} {b : Nat} {f : Nat → Int} (h : Row w b f) {n : Nat} (hn : n = 40) : w.there b 0 n := fun j hj => by
  rw [Nat.zero_add, (h j (by omega)).1, (h j (by omega)).2]; exact ⟨rfl, rfl⟩
theorem size138 : (Try.prog.info? 99).map (·.size) = some 40 := by kernel_rfl
theorem WL_one (z : Int) : (WL z).toArray.all (·.oneCell') = true := all_oneCell_toArray (fun v hv => by
  unfold WL at hv
  obtain ⟨i, _, rfl⟩ := List.mem_map.1 hv
  rfl)
theorem row_zero (w : World) : Row (w.alloc (.cells (Array.replicate 40 (.int .u64 0)) 99)) w.heap.size (fun _ => 0) := fun j hj => by
  refine ⟨?_, ?_⟩
  · rw [World.cell?_alloc_new w (Array.replicate 40 (.int .u64 0)) 99 j]
    simp [hj]
  · simp [go_sem]
theorem below_setCells {B : Nat} {a w : World} (h : Below B a w) {b : Nat} (hb : B ≤ b) (o : Nat) (vs : List Value) : Below B a (w.setCells b o vs) := by
  induction vs generalizing o w with
  | nil => exact h
  | cons v r ih => rw [World.setCells]; exact ih (h.setCell hb v) (o + 1)
theorem results_cell1 {P : Program} {fn : Func} {p : Tmp} {ty : TypeId} (h : fn.results = #[.cell p ty]) {tmps : Array Value} {a : Addr} (hp : tmps.getD p undef = .pointer (some a)) {w : World} {v : Value}
    (hl : (loadVar ty a).run P w = .ok v w) : (results fn tmps).run P w = .ok v w := by
  have hp' : tmps[p]?.getD undef = .pointer (some a) := by simpa using hp
  simp [results, h, hp', asAddr, hl]
theorem Row.congr {w : World} {b : Nat} {f g : Nat → Int} (h : Row w b f) (e : ∀ j, j < 40 → f j = g j) : Row w b g := fun j hj => by rw [← e j hj]; exact h j hj
set_option maxRecDepth 100000 in
set_option maxHeartbeats 1000000 in
theorem c143 (a b : Int) (w : World) : Calls Try.prog 47 #[.agg (WL a).toArray, .agg (WL b).toArray] w fun e w' => e = .returned (.agg (WL (a + b)).toArray) ∧ Below w.heap.size w w' := by
  have R0 : Row ((w.alloc (.cells (WL a).toArray 99)).alloc (.cells (WL b).toArray 99)) w.heap.size (wd a) := row_alloc_lt (row_alloc w a) (by simp) _
  have R1 : Row ((w.alloc (.cells (WL a).toArray 99)).alloc (.cells (WL b).toArray 99)) (w.heap.size + 1) (wd b) := by
    have := row_alloc (w.alloc (.cells (WL a).toArray 99)) b
    simpa using this
  have HR0 := Lib.hid R0
  have HR1 := Lib.hid R1
  clear R0 R1
  go_enter Try.func47, Try.ntmps47
  go_wp2
  go_loopw [5, 7] (fun c i wx => ∃ k : Nat, k ≤ 40 ∧ i = .int .i64 k ∧ c = .int .u64 (cy a b k) ∧ Hid (Row wx w.heap.size (fun j => if j < k then wd (a + b) j else wd a j)) ∧ Hid (Row wx (w.heap.size + 1) (wd b)) ∧ Hid (Below w.heap.size w wx) ∧ Hid (w.heap.size + 2 < wx.heap.size) ∧ Hid (Row wx (w.heap.size + 2) (fun _ => 0))) (fun _ i _ => 40 - (intOf i).toNat)
  case atStart =>
    refine ⟨0, by omega, rfl, by rw [cy_zero], Lib.hid ?_, Lib.hid ?_, Lib.hid ?_, Lib.hid ?_, Lib.hid ?_⟩
    · exact (row_alloc_lt HR0.out (by simp; omega) _).congr (fun j hj => by rw [if_neg (by omega)])
    · exact row_alloc_lt HR1.out (by simp) _
    · exact (((Below.refl _ _).alloc (Nat.le_refl _) _).alloc (by simp) _).alloc (by simp; omega) _
    · simp
    · have := row_zero ((w.alloc (.cells (WL a).toArray 99)).alloc (.cells (WL b).toArray 99))
      simp only [World.size_alloc] at this
      exact this
  case round =>
    obtain ⟨k, hk, rfl, rfl, hR0, hR1, hB, hz, hR2⟩ := hrel
    by_cases hlt : k < 40
    · obtain ⟨c0, f0⟩ := hR0.out k hlt
      obtain ⟨c1, _⟩ := hR1.out k hlt
      have c0 : wr.cell? ⟨w.heap.size, k, none⟩ = some (.int .u64 (wd a k)) := by simpa using c0
      have hcr := cy_range a b k
      have ha := wd_range a k
      have hbr := wd_range b k
      have hx := fun w => x179 (wd a k) (wd b k) (cy a b k) ha.1 hbr.1 hcr.1 hcr.2 w
      rw [← wd_add, ← cy_succ] at hx
      have hki : (k : Int) < 40 := by omega
      clear hcr ha hbr
      go_wp2_with fail
      go_region
      go_wp2
      go_roundw
      case rel =>
        refine ⟨k + 1, by omega, by go_num, rfl, Lib.hid ?_, Lib.hid ?_, Lib.hid ?_, Lib.hid ?_, Lib.hid ?_⟩
        · have := (hR0.out.set k hlt (wd (a + b) k)).drew
          exact this.congr (fun j hj => by
            by_cases e : j = k
            · subst e; simp
            · by_cases e2 : j < k
              · simp [e, e2, show j < k + 1 by omega]
              · simp [e, e2, show ¬ j < k + 1 by omega])
        · exact (hR1.out.other _ _ (by simp)).drew
        · exact (hB.out.setCell (Nat.le_refl _) _).drew
        · have := hz.out; simpa [go_sem] using this
        · exact (hR2.out.other _ _ (by simp)).drew
      case measure => simp [intOf]; omega
    · have hk40 : k = 40 := by omega
      subst hk40
      have RR : wr.rangeAt w.heap.size 0 (WL (a + b)) := (hR0.out.congr (fun j hj => by rw [if_pos hj])).range
      have HR := Lib.hid RR
      have TT : wr.there (w.heap.size + 1 + 1) 0 (WL (a + b)).toArray.size := hR2.out.there (by simp [WL_len])
      have e1 : (Try.prog.info? 99).map (·.size) = some (WL (a + b)).length := by rw [WL_len]; exact size138
      have e2 : (Try.prog.info? 99).map (·.size) = some (WL (a + b)).toArray.size := by rw [List.size_toArray]; exact e1
      have HT := Lib.hid TT
      have h1 := Lib.hid (WL_one (a + b))
      have E1 := Lib.hid e1
      have E2 := Lib.hid e2
      have RL := World.rangeAt_setCells_same wr (w.heap.size + 1 + 1) 0 (WL (a + b)) (by simpa using TT)
      have hres := run_loadVar_mid (P := Try.prog) _ _ 0 99 (WL (a + b)) _ RL Try.underlying99 rfl e1
      have HF := Lib.hid hres
      clear RR TT e1 e2 RL hres
      go_wp2_with (first
        | (refine wpList_load_mid rfl 99 (.tmp 2) rfl w.heap.size 0 rfl (WL (a + b)) _ HR.out Try.underlying99 rfl E1.out ?_)
        | (refine wpList_store_mid rfl 99 (.tmp 4) (.tmp 24) rfl (w.heap.size + 1 + 1) 0 (WL (a + b)).toArray rfl rfl HT.out E2.out h1.out ?_))
      refine bodyPost_ret (v := .agg (WL (a + b)).toArray) (results_cell1 Try.results47 rfl HF.out) rfl ⟨rfl, ?_⟩
      exact below_setCells hB.out (by omega) _ _
def sub64Entry : Array Value → Sem Value := fun args => do
  let (x, y, b) ← Extern.MathBitsCarry.three "Sub64" args
  pure (Extern.MathBitsCarry.pair ((x + Extern.MathBitsCarry.m64 - y - b) % Extern.MathBitsCarry.m64) (if x < y + b then 1 else 0))
theorem x178 (y c : Int) (hy : 0 ≤ y) (hy2 : y < 18446744073709551616) (hc0 : 0 ≤ c) (hc : c ≤ 1) (w : World) : (callFunc 68 #[.int .u64 0, .int .u64 y, .int .u64 c]).run Try.prog w = .ok (.value (.tuple #[.int .u64 ((0 - y - c) % 18446744073709551616), .int .u64 (if y + c = 0 then 0 else 1)])) w := by
  rw [run_callFunc_extern (P := Try.prog) (f := 68) (fn := Try.f68) (e := sub64Entry) (by kernel_rfl) (by kernel_rfl) (by kernel_rfl) (by kernel_rfl) (by kernel_rfl)]
  have key : ∀ k : Nat, k ≤ 1 → (sub64Entry #[.int .u64 0, .int .u64 y, .int .u64 (k : Int)]).run Try.prog w =
      .ok (Extern.MathBitsCarry.pair ((0 + Extern.MathBitsCarry.m64 - y.toNat - k) % Extern.MathBitsCarry.m64) (if 0 < y.toNat + k then 1 else 0)) w := by
    intro k hk
    have : k = 0 ∨ k = 1 := by omega
    rcases this with rfl | rfl <;> rfl
  obtain ⟨k, rfl⟩ := Int.eq_ofNat_of_zero_le hc0
  rw [key k (by omega)]
  obtain ⟨Y, rfl⟩ := Int.eq_ofNat_of_zero_le hy
  have e1 : ((((0 + Extern.MathBitsCarry.m64 - (Y : Int).toNat - k) % Extern.MathBitsCarry.m64 : Nat)) : Int) = (0 - (Y : Int) - (k : Int)) % 18446744073709551616 := by
    rw [Int.toNat_natCast]
    have : Extern.MathBitsCarry.m64 = 18446744073709551616 := rfl
    rw [this]; omega
  have e2 : (((if 0 < (Y : Int).toNat + k then 1 else 0 : Nat)) : Int) = if (Y : Int) + (k : Int) = 0 then 0 else 1 := by
    rw [Int.toNat_natCast]
    by_cases h : 0 < Y + k
    · rw [if_pos h, if_neg (by omega)]; rfl
    · rw [if_neg h, if_pos (by omega)]; rfl
  show Result.ok (Next.value (.tuple #[.int .u64 (Int.ofNat _), .int .u64 (Int.ofNat _)])) w = _
  rw [← e1, ← e2]; rfl
set_option maxRecDepth 100000 in
set_option maxHeartbeats 1000000 in
theorem c142 (a : Int) (w : World) : Calls Try.prog 46 #[.agg (WL a).toArray] w fun e w' => e = .returned (.agg (WL (-a)).toArray) ∧ Below w.heap.size w w' := by
  have HR0 := Lib.hid (row_alloc w a)
  go_enter Try.func46, Try.ntmps46
  go_wp2
  go_loopw [3, 5] (fun c i wx => ∃ k : Nat, k ≤ 40 ∧ i = .int .i64 k ∧ c = .int .u64 (bw a k) ∧ Hid (Row wx w.heap.size (fun j => if j < k then wd (-a) j else wd a j)) ∧ Hid (Below w.heap.size w wx) ∧ Hid (Row wx (w.heap.size + 1) (fun _ => 0))) (fun _ i _ => 40 - (intOf i).toNat)
  case atStart =>
    refine ⟨0, by omega, rfl, by rw [bw_zero], Lib.hid ?_, Lib.hid ?_, Lib.hid ?_⟩
    · exact (row_alloc_lt HR0.out (by simp) _).congr (fun j hj => by rw [if_neg (by omega)])
    · exact ((Below.refl _ _).alloc (Nat.le_refl _) _).alloc (by simp) _
    · have := row_zero (w.alloc (.cells (WL a).toArray 99))
      simp only [World.size_alloc] at this
      exact this
  case round =>
    obtain ⟨k, hk, rfl, rfl, hR0, hB, hR2⟩ := hrel
    by_cases hlt : k < 40
    · obtain ⟨c0, f0⟩ := hR0.out k hlt
      have c0 : wr.cell? ⟨w.heap.size, k, none⟩ = some (.int .u64 (wd a k)) := by simpa using c0
      have hcr := bw_range a k
      have ha := wd_range a k
      have hx := fun w => x178 (wd a k) (bw a k) ha.1 ha.2 hcr.1 hcr.2 w
      rw [← wd_neg, ← bw_succ] at hx
      have hki : (k : Int) < 40 := by omega
      clear hcr ha
      go_wp2
      go_roundw
      case rel =>
        refine ⟨k + 1, by omega, by go_num, rfl, Lib.hid ?_, Lib.hid ?_, Lib.hid ?_⟩
        · have := hR0.out.set k hlt (wd (-a) k)
          exact this.congr (fun j hj => by
            by_cases e : j = k
            · subst e; simp
            · by_cases e2 : j < k
              · simp [e, e2, show j < k + 1 by omega]
              · simp [e, e2, show ¬ j < k + 1 by omega])
        · exact hB.out.setCell (Nat.le_refl _) _
        · exact hR2.out.other _ _ (by simp)
      case measure => simp [intOf]; omega
    · have hk40 : k = 40 := by omega
      subst hk40
      have RR : wr.rangeAt w.heap.size 0 (WL (-a)) := (hR0.out.congr (fun j hj => by rw [if_pos hj])).range
      have HR := Lib.hid RR
      have TT : wr.there (w.heap.size + 1) 0 (WL (-a)).toArray.size := hR2.out.there (by simp [WL_len])
      have e1 : (Try.prog.info? 99).map (·.size) = some (WL (-a)).length := by rw [WL_len]; exact size138
      have e2 : (Try.prog.info? 99).map (·.size) = some (WL (-a)).toArray.size := by rw [List.size_toArray]; exact e1
      have HT := Lib.hid TT
      have h1 := Lib.hid (WL_one (-a))
      have E1 := Lib.hid e1
      have E2 := Lib.hid e2
      have RL := World.rangeAt_setCells_same wr (w.heap.size + 1) 0 (WL (-a)) (by simpa using TT)
      have hres := run_loadVar_mid (P := Try.prog) _ _ 0 99 (WL (-a)) _ RL Try.underlying99 rfl e1
      have HF := Lib.hid hres
      clear RR TT e1 e2 RL hres
      go_wp2_with (first
        | (refine wpList_load_mid rfl 99 (.tmp 1) rfl w.heap.size 0 rfl (WL (-a)) _ HR.out Try.underlying99 rfl E1.out ?_)
        | (refine wpList_store_mid rfl 99 (.tmp 2) (.tmp 19) rfl (w.heap.size + 1) 0 (WL (-a)).toArray rfl rfl HT.out E2.out h1.out ?_))
      refine bodyPost_ret (v := .agg (WL (-a)).toArray) (results_cell1 Try.results46 rfl HF.out) rfl ⟨rfl, ?_⟩
      exact below_setCells hB.out (by omega) _ _
end Go.Proofs.Ytedkbjimofiphaa
