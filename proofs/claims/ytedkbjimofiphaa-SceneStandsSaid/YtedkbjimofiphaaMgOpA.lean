/- Arguments that are slices of structs, opened: shapes; drawn items. The law SceneParts: plain laws: areas are not below nought; bounds and sums by any order; hits turned round. -/
import Derived.Test.YtedkbjimofiphaaMgItB
import Derived.Test.YtedkbjimofiphaaGeoM3
import Derived.Test.YtedkbjimofiphaaOpenF
import Derived.Test.YtedkbjimofiphaaMgAccH
namespace Go.Proofs.Ytedkbjimofiphaa
open Go.ChangeShapes Go.WideShapes Go.RowKit Go.Deep
theorem cO3 : Try.prog.cellsOf 3 = 1 := by kernel_rfl
theorem cO31 : Try.prog.cellsOf 31 = 1 := by kernel_rfl
theorem cO33 : Try.prog.cellsOf 33 = 4 := by kernel_rfl
theorem cO44 : Try.prog.cellsOf 44 = 16 := by kernel_rfl
theorem cO94 : Try.prog.cellsOf 94 = 22 := by kernel_rfl
theorem cut1 {l : List Value} {k : Nat} (a : Nat) : l.drop k = (l.drop k).take a ++ l.drop (k + a) := by
  conv => lhs; rw [← List.take_append_drop a (l.drop k)]
  rw [List.drop_drop]
section
variable {H : Type} {enc : TypeId × Value → H} {w : World}
set_option maxRecDepth 100000 in
theorem trod_rect {n : Nat} {cs : List Value} {y : DataW H × List MemPlace} (h : DataW.trod enc Try.prog w 0 (fun _ => true) true n 33 cs = some y) : ∃ a b c d : Nat, cs = [.float .f64 a, .float .f64 b, .float .f64 c, .float .f64 d] ∧ U a ∧ U b ∧ U c ∧ U d := by
  obtain ⟨xs, n', _, _, hl, hxl, hf⟩ := DataW.trod_struct Try.underlying33 h
  rw [cO33] at hl
  have hxl : xs.length = 4 := hxl
  match cs, hl with
  | [c0, c1, c2, c3], _ =>
    have e0 : DataW.trod enc Try.prog w 0 (fun _ => true) true n' 31 (List.take (Try.prog.cellsOf 31) (List.drop 0 [c0, c1, c2, c3])) = some (xs[0]'(by omega)) := (hf 0 _ rfl).trans (List.getElem?_eq_getElem (by omega))
    have e1 : DataW.trod enc Try.prog w 0 (fun _ => true) true n' 31 (List.take (Try.prog.cellsOf 31) (List.drop 1 [c0, c1, c2, c3])) = some (xs[1]'(by omega)) := (hf 1 _ rfl).trans (List.getElem?_eq_getElem (by omega))
    have e2 : DataW.trod enc Try.prog w 0 (fun _ => true) true n' 31 (List.take (Try.prog.cellsOf 31) (List.drop 2 [c0, c1, c2, c3])) = some (xs[2]'(by omega)) := (hf 2 _ rfl).trans (List.getElem?_eq_getElem (by omega))
    have e3 : DataW.trod enc Try.prog w 0 (fun _ => true) true n' 31 (List.take (Try.prog.cellsOf 31) (List.drop 3 [c0, c1, c2, c3])) = some (xs[3]'(by omega)) := (hf 3 _ rfl).trans (List.getElem?_eq_getElem (by omega))
    rw [cO31] at e0 e1 e2 e3
    obtain ⟨a, rfl, wa⟩ := trod_float1 Try.underlying31 e0
    obtain ⟨b, rfl, wb⟩ := trod_float1 Try.underlying31 e1
    obtain ⟨c, rfl, wc⟩ := trod_float1 Try.underlying31 e2
    obtain ⟨d, rfl, wd⟩ := trod_float1 Try.underlying31 e3
    exact ⟨a, b, c, d, rfl, U_of_wf wa, U_of_wf wb, U_of_wf wc, U_of_wf wd⟩
set_option maxRecDepth 100000 in
theorem trod_mat {n : Nat} {cs : List Value} {y : DataW H × List MemPlace} (h : DataW.trod enc Try.prog w 0 (fun _ => true) true n 44 cs = some y) (hl : cs.length = 16) : ∃ ms : List Nat, cs = ms.map (Value.float .f64) ∧ MU ms := by
  have key : ∀ i, i < 16 → ∃ x, cs[i]? = some (Value.float .f64 x) ∧ U x := by
    cases n with
    | zero => simp [DataW.trod] at h
    | succ n =>
      unfold DataW.trod at h
      rw [Try.underlying44] at h
      simp only [hl, cO44, if_true] at h
      rw [Option.map_eq_some_iff] at h
      obtain ⟨ys, hys, _⟩ := h
      intro i hi
      obtain ⟨y, hy⟩ := mapM_each hys i (List.mem_range.2 hi)
      have hlt : i < cs.length := by omega
      have e1 : (cs.drop (i * Try.prog.cellsOf 31)).take (Try.prog.cellsOf 31) = [cs[i]] := by
        rw [cO31, Nat.mul_one, List.drop_eq_getElem_cons hlt]; rfl
      rw [e1] at hy
      obtain ⟨x, hx, hw⟩ := trod_floatQ Try.underlying31 hy
      exact ⟨x, by rw [List.getElem?_eq_getElem hlt, hx], U_of_wf hw⟩
  refine ⟨cs.map (fun v => match v with | .float _ x => x | _ => 0), ?_, by rw [List.length_map]; exact hl, fun x hx => ?_⟩
  · refine List.ext_getElem (by simp) fun i h1 h2 => ?_
    obtain ⟨x, hx, _⟩ := key i (by omega)
    rw [List.getElem?_eq_getElem h1] at hx
    injection hx with hx
    simp [hx]
  · obtain ⟨v, hv, rfl⟩ := List.mem_map.1 hx
    obtain ⟨i, hi, rfl⟩ := List.mem_iff_getElem.1 hv
    obtain ⟨x, hx, hu⟩ := key i (by omega)
    rw [List.getElem?_eq_getElem hi] at hx
    injection hx with hx
    rw [hx]
    exact hu
theorem take_one {l : List Value} {k : Nat} (h : k < l.length) : ∃ v, (l.drop k).take 1 = [v] := ⟨l[k], by rw [List.drop_eq_getElem_cons h]; rfl⟩
end
/-- a slice of structs: none, or they lie in a block -/
def SL {α : Type} (w : World) (A : Option Addr) (n s : Nat) (S : Nat → α) (f : α → List Value) : Prop := n = 0 ∨ ∃ b o, A = some ⟨b, o, none⟩ ∧ b < w.heap.size ∧ ∀ k, k < n → w.rangeAt b (o + k * s) (f (S k))
end Go.Proofs.Ytedkbjimofiphaa

namespace Go.Proofs.Ytedkbjimofiphaa
open Go.RowKit Fl
theorem word_up (r : Nat) (h : r ≤ INF) : pl r = (r : Int) := by
  have hI : INF = 9218868437227405312 := rfl
  have e : rg r = r := by unfold rg; omega
  have s : sg r = false := decide_eq_false (by omega)
  have n : isN r = false := by unfold isN; rw [e]; exact decide_eq_false (by omega)
  rw [pl_pos n s, e]
/-- an amount, halved -/
theorem half_up (p : Int) (h : p = 9223372036854775807 ∨ (0 ≤ p ∧ p ≤ 9218868437227405312)) : opP .mul 4602678819172646912 p = 9223372036854775807 ∨ (0 ≤ opP .mul 4602678819172646912 p ∧ opP .mul 4602678819172646912 p ≤ 9218868437227405312) := by
  rcases h with rfl | ⟨h0, h1⟩
  · exact .inl (by kernel_rfl)
  · obtain ⟨n, rfl⟩ : ∃ n : Nat, p = (n : Int) := ⟨p.toNat, by omega⟩
    have hn : n ≤ 9218868437227405312 := by omega
    have e1 : atW (n : Int) = n := by unfold atW; rw [if_neg (by omega)]; rfl
    have e2 : atW 4602678819172646912 = 4602678819172646912 := by kernel_rfl
    unfold opP
    rw [e1, e2]
    have ef : floatBits .mul .f64 4602678819172646912 n = FloatKind.f64.format.mul 4602678819172646912 n := rfl
    rw [ef]
    have e3 : FloatKind.f64.format.read 4602678819172646912 = .number false 4503599627370496 (-53) := by kernel_rfl
    unfold Ieee.Format.mul
    rw [e3]
    have hw : ∀ r, FloatKind.f64.format.word false r = r := fun r => rfl
    have hneg : (n / FloatKind.f64.format.signWeight % 2 == 1) = false := by
      have : FloatKind.f64.format.signWeight = 9223372036854775808 := by kernel_rfl
      rw [this, Nat.div_eq_of_lt (by omega)]; rfl
    have hinf : FloatKind.f64.format.infRung = 9218868437227405312 := by kernel_rfl
    have fin : ∀ r : Nat, r ≤ 9218868437227405312 → pl r = 9223372036854775807 ∨ (0 ≤ pl r ∧ pl r ≤ 9218868437227405312) := fun r hr => by
      rw [word_up r hr]; exact .inr ⟨by omega, by omega⟩
    have near : ∀ m e, pl (FloatKind.f64.format.nearest false m e) = 9223372036854775807 ∨ (0 ≤ pl (FloatKind.f64.format.nearest false m e) ∧ pl (FloatKind.f64.format.nearest false m e) ≤ 9218868437227405312) := fun m e => by
      unfold Ieee.Format.nearest
      split
      · rw [hw]; exact fin 0 (by omega)
      · dsimp only; rw [hw]; exact fin _ (by rw [hinf]; exact Nat.min_le_right _ _)
    have hr : (∃ m e, FloatKind.f64.format.read n = .number false m e) ∨ FloatKind.f64.format.read n = .infinity false ∨ ∃ f, FloatKind.f64.format.read n = .nan false f := by
      unfold Ieee.Format.read
      rw [hneg]
      dsimp only
      split
      · exact .inl ⟨_, _, rfl⟩
      · split
        · exact .inl ⟨_, _, rfl⟩
        · split
          · exact .inr (.inl rfl)
          · exact .inr (.inr ⟨_, rfl⟩)
    rcases hr with ⟨m, e, h⟩ | h | ⟨f, h⟩
    · rw [h]; exact near _ _
    · rw [h]
      show pl (FloatKind.f64.format.word false _) = _ ∨ _
      rw [hw, hinf]; exact fin _ (Nat.le_refl _)
    · rw [h]; exact .inl rfl
theorem pV_in (s : AS) : pV s = 9223372036854775807 ∨ (-9218868437227405313 ≤ pV s ∧ pV s ≤ 9218868437227405312) := by
  have hI : INF = 9218868437227405312 := rfl
  have h := rnd_le s.z.natAbs
  unfold pV
  split
  · exact .inl rfl
  · right
    split
    · omega
    · split
      · omega
      · split
        · omega
        · split <;> omega
theorem area_up (t : ITM) : areaP t = 9223372036854775807 ∨ (0 ≤ areaP t ∧ areaP t ≤ 9218868437227405312) := by
  unfold areaP
  refine half_up _ ?_
  rcases pV_in (accP (areaL t 4)) with h | h
  · rw [h]; exact .inl rfl
  · unfold abP
    split
    · left; assumption
    · split <;> right <;> omega
theorem area_not (t : ITM) : fltP (areaP t) 0 = false ∧ (feqP (areaP t) 0 = true → areaP t = 0) := by
  rcases area_up t with h | ⟨h0, h1⟩
  · rw [h]; exact ⟨by decide, fun h => absurd h (by decide)⟩
  · constructor
    · unfold fltP zk
      rw [if_neg (by omega), if_neg (by omega), decide_eq_false (by omega : ¬ areaP t < 0)]
      simp
    · intro h
      unfold feqP zk at h
      rw [if_neg (by omega), if_neg (by omega)] at h
      simp only [Bool.and_eq_true, decide_eq_true_eq] at h
      exact h.2
/-! ### by any order -/
def fl (f : Int → Int → Int) (z : Int) (l : List Int) : Int := l.foldl f z
theorem fq_fl (f : Int → Int → Int) (z : Int) (g : Nat → Int) : ∀ m, fq f z g m = fl f z ((List.range m).map g)
  | 0 => rfl
  | m + 1 => by
    unfold fl
    rw [List.range_succ, List.map_append, List.foldl_append]
    show f (fq f z g m) (g m) = _
    rw [fq_fl f z g m]; rfl
theorem fl_perm {f : Int → Int → Int} (hf : ∀ a x y, f (f a x) y = f (f a y) x) {l m : List Int} (h : l.Perm m) : ∀ z, fl f z l = fl f z m := by
  unfold fl
  induction h with
  | nil => intro z; rfl
  | cons x _ ih => intro z; exact ih _
  | swap x y l => intro z; rw [List.foldl_cons, List.foldl_cons, List.foldl_cons, List.foldl_cons, hf]
  | trans _ _ h1 h2 => intro z; rw [h1, h2]
theorem minP_swap (a x y : Int) : minP (minP a x) y = minP (minP a y) x := by
  unfold minP
  repeat' split
  all_goals omega
theorem maxP_swap (a x y : Int) : maxP (maxP a x) y = maxP (maxP a y) x := by
  unfold maxP
  repeat' split
  all_goals omega
/-- the corners' places turned round -/
def sg4 (n q : Nat) : Nat := 4 * (n - 1 - q / 4) + q % 4
theorem sg4_perm (n : Nat) : ((List.range (4 * n)).map (sg4 n)).Perm (List.range (4 * n)) := by
  have nd : ((List.range (4 * n)).map (sg4 n)).Nodup := by
    refine List.pairwise_map.2 (List.Pairwise.imp_of_mem (fun {x y} hx hy hne h => ?_) (List.nodup_range (n := 4 * n)))
    have h1 := List.mem_range.1 hx
    have h2 := List.mem_range.1 hy
    unfold sg4 at h
    exact hne (by omega)
  refine (List.perm_ext_iff_of_nodup nd List.nodup_range).2 fun x => ?_
  rw [List.mem_range, List.mem_map]
  constructor
  · rintro ⟨q, hq, rfl⟩
    have := List.mem_range.1 hq
    unfold sg4; omega
  · intro hx
    exact ⟨sg4 n x, List.mem_range.2 (by unfold sg4; omega), by unfold sg4; omega⟩
theorem fq_turn {f : Int → Int → Int} (hf : ∀ a x y, f (f a x) y = f (f a y) x) (z : Int) (g g' : Nat → Int) (n : Nat) (h : ∀ q, q < 4 * n → g' q = g (sg4 n q)) : fq f z g (4 * n) = fq f z g' (4 * n) := by
  rw [fq_fl, fq_fl]
  have e : (List.range (4 * n)).map g' = ((List.range (4 * n)).map (sg4 n)).map g := by
    rw [List.map_map]; exact List.map_congr_left fun q hq => h q (List.mem_range.1 hq)
  rw [e]
  exact (fl_perm hf ((sg4_perm n).map g) z).symm
/-- the items turned round -/
def trn (T : Nat → ITM) (n : Nat) (k : Nat) : ITM := T (n - 1 - k)
theorem xq_turn (T : Nat → ITM) (n : Nat) : ∀ q, q < 4 * n → xq (trn T n) q = xq T (sg4 n q) := fun q hq => by
  have h := xq_at T (i := n - 1 - q / 4) (j := q % 4) (by omega)
  unfold sg4
  rw [h]; rfl
theorem yq_turn (T : Nat → ITM) (n : Nat) : ∀ q, q < 4 * n → yq (trn T n) q = yq T (sg4 n q) := fun q hq => by
  have h := yq_at T (i := n - 1 - q / 4) (j := q % 4) (by omega)
  unfold sg4
  rw [h]; rfl
theorem bd_turn (T : Nat → ITM) (n : Nat) : bdL T (4 * n) = bdL (trn T n) (4 * n) ∧ bdT T (4 * n) = bdT (trn T n) (4 * n) ∧ bdR T (4 * n) = bdR (trn T n) (4 * n) ∧ bdB T (4 * n) = bdB (trn T n) (4 * n) :=
  ⟨fq_turn minP_swap _ _ _ n (xq_turn T n), fq_turn minP_swap _ _ _ n (yq_turn T n), fq_turn maxP_swap _ _ _ n (xq_turn T n), fq_turn maxP_swap _ _ _ n (yq_turn T n)⟩
theorem range_turn {α : Type} (f : Nat → α) (n : Nat) : (List.range n).map (fun k => f (n - 1 - k)) = ((List.range n).map f).reverse := by
  refine List.ext_getElem (by simp) fun j h1 h2 => ?_
  simp
theorem sum_permS {l m : List Int} (h : l.Perm m) : l.sum = m.sum := by
  induction h with
  | nil => rfl
  | cons x _ ih => rw [List.sum_cons, List.sum_cons, ih]
  | swap x y l => simp only [List.sum_cons]; omega
  | trans _ _ a b => rw [a, b]
/-- what an Acc has that has been given a list's numbers hangs on no order -/
theorem accS_permS {l m : List Nat} (h : l.Perm m) : accS l = accS m := by
  rw [accS_eq, accS_eq]
  have a1 : sumU l = sumU m := by unfold sumU; exact sum_permS (h.map _)
  have a2 : ∀ f : Nat → Bool, l.any f = m.any f := fun f => h.any_eq
  have a3 : anyS l = anyS m := h.any_eq
  rw [a1, a3, a2 isN, a2 (fun x => decide (x = 9218868437227405312)), a2 (fun x => decide (x = 18442240474082181120))]
theorem accP_perm {l m : List Int} (h : l.Perm m) : accP l = accP m := accS_permS (h.map pw)
theorem tot_turn (T : Nat → ITM) (n : Nat) : pV (accP (arL T n)) = pV (accP (arL (trn T n) n)) ∧ pV (accP (cvL T n)) = pV (accP (cvL (trn T n) n)) := by
  constructor
  · rw [show arL (trn T n) n = (arL T n).reverse from range_turn (fun k => areaP (T k)) n, accP_perm (List.reverse_perm _)]
  · rw [show cvL (trn T n) n = (cvL T n).reverse from range_turn (fun k => opP .mul (areaP (T k)) (pl (T k).o)) n, accP_perm (List.reverse_perm _)]
/-! ### hits -/
theorem hit_turn (p : Nat → Bool) (n : Nat) : (hitL (fun k => p (n - 1 - k)) n).map (fun k => n - 1 - k) = (hitL p n).reverse := by
  unfold hitL
  have e : (List.range n).reverse = (List.range n).map (fun k => n - 1 - k) := by
    have := range_turn (fun k => k) n
    rw [this, List.map_id']
  have h2 : ((List.range n).reverse.filter (fun k => p (n - 1 - k))).map (fun k => n - 1 - k) = ((List.range n).reverse.map (fun k => n - 1 - k)).filter p := by
    rw [List.filter_map]; rfl
  rw [h2, ← List.filter_reverse, List.reverse_reverse, List.map_reverse, ← e, List.reverse_reverse]
theorem hit_pair (p : Nat → Bool) (n : Nat) : (hitL (fun k => p (n - 1 - k)) n).length = (hitL p n).length ∧ ∀ i, i < (hitL p n).length → n - 1 - (hitL (fun k => p (n - 1 - k)) n).getD ((hitL p n).length - 1 - i) 0 = (hitL p n).getD i 0 := by
  have h := hit_turn p n
  have hl : (hitL (fun k => p (n - 1 - k)) n).length = (hitL p n).length := by
    have := congrArg List.length h
    simpa using this
  refine ⟨hl, fun i hi => ?_⟩
  have h2 := congrArg (fun l => l[(hitL p n).length - 1 - i]?) h
  rw [List.getElem?_map, List.getElem?_reverse (by omega), List.getElem?_eq_getElem (by omega), List.getElem?_eq_getElem (by omega)] at h2
  simp only [Option.map_some, Option.some.injEq] at h2
  rw [List.getD_eq_getElem?_getD, List.getD_eq_getElem?_getD, List.getElem?_eq_getElem (by omega), List.getElem?_eq_getElem hi]
  simp only [Option.getD_some]
  rw [h2]
  congr 1
  omega
end Go.Proofs.Ytedkbjimofiphaa
