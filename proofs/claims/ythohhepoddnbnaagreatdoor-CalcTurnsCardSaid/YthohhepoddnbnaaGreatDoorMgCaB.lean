/- Slices of floats. Hypot: the program's and the reference's tell one place. calc.Hypot. galleyref14.Hypot. -/
import Derived.Test.YthohhepoddnbnaaGreatDoorMgUG
import Derived.OwnWalk
import Derived.Deep.AppendLies
import Derived.Test.YthohhepoddnbnaaGreatDoorMgLdexp
import Derived.BigQuiet
namespace Go.Proofs.YthohhepoddnbnaaGreatDoor
open Go.RowKit Fl

/-- a slice's numbers: none, or they lie in a block -/
def FS (w : World) (A : Option Addr) (l : List Nat) : Prop := l = [] ∨ ∃ b o, A = some ⟨b, o, none⟩ ∧ FL w b o l
theorem FS.below {w w' : World} {A : Option Addr} {l : List Nat} (h : FS w A l) (hb : Below w.heap.size w w') : FS w' A l := by
  rcases h with h | ⟨b, o, h1, h2⟩
  · exact .inl h
  · exact .inr ⟨b, o, h1, h2.below hb⟩
theorem FL.keep {w0 w w' : World} {b o : Nat} {l : List Nat} (h : FL w b o l) (hb : Below w0.heap.size w0 w) (hb' : Below w0.heap.size w0 w') (hlt : b < w0.heap.size) : FL w' b o l :=
  ⟨fun j x hj => ((hb'.cell (p := ⟨b, o + j, none⟩) hlt).trans (hb.cell (p := ⟨b, o + j, none⟩) hlt).symm).trans (h.cell j x hj), h.u, Nat.lt_of_lt_of_le hlt hb'.size⟩
theorem FS.u {w : World} {A : Option Addr} {l : List Nat} (h : FS w A l) : ∀ x ∈ l, U x := by
  rcases h with rfl | ⟨b, o, _, h2⟩
  · intro x hx; cases hx
  · intro x hx
    obtain ⟨j, hj⟩ := List.getElem?_of_mem hx
    exact h2.u j x hj
theorem info24 : (Tryz.prog.info? 22).map (fun i => (i.zero, i.size, i.bytes)) = some (some (.float .f64 0), 1, 8) := by kernel_rfl
theorem made_one (v : Value) (n : Nat) : (madeCells #[v] (n * 1)).toList = List.replicate n v := by
  rw [Nat.mul_one]
  apply List.ext_getElem
  · simp [size_madeCells]
  · intro i h1 h2
    simp [madeCells, Nat.mod_one]
/-- block g is a row of n floats that the call made -/
def OwnF (w : World) (B g n : Nat) (m : List Nat) : Prop := w.ownsRow B 22 1 (.slice (some ⟨g, 0, none⟩) n n) n (m.map (Value.float .f64))
theorem OwnF.FL {w : World} {B g n : Nat} {m : List Nat} (h : OwnF w B g n m) (hU : ∀ x ∈ m, U x) (hn : 0 < n) : FL w g 0 m := by
  obtain ⟨g', cap, hv, _, hlt⟩ := World.ownsRow.form h hn
  injection hv with hv _ _
  injection hv with hv
  injection hv with hv
  subst hv
  refine ⟨fun j x hj => ?_, fun j x hj => hU x (List.mem_of_getElem? hj), hlt⟩
  have hl : (m.map (Value.float .f64)).length = n * 1 := h.1
  rw [List.length_map, Nat.mul_one] at hl
  have hj' : j < n := by rw [← hl]; exact (List.getElem?_eq_some_iff.1 hj).1
  rw [Nat.zero_add, World.ownsRow.cellAt h j (by omega), List.getElem?_map, hj]; rfl
theorem OwnF.store {w : World} {B g n k : Nat} {m : List Nat} (h : OwnF w B g n m) (hk : k < n) (v : Nat) :
    (Go.store ⟨g, k, none⟩ (.float .f64 v)).run Tryz.prog w = .ok () (w.setCell ⟨g, k, none⟩ (.float .f64 v)) := by
  have h1 : (m.map (Value.float .f64)).length = n * 1 := h.1
  have kd : w.cell? ⟨g, k, none⟩ = some ((m.map (Value.float .f64))[k]'(by omega)) := (World.ownsRow.cellAt h k (by omega)).trans (List.getElem?_eq_getElem (by omega))
  have kf : w.frozen? ⟨g, k, none⟩ = false := World.ownsRow.frozenAt h k
  rw [run_store Tryz.prog _ _ _ _ rfl, kd, kf]; rfl
end Go.Proofs.YthohhepoddnbnaaGreatDoor

namespace Go.Proofs.YthohhepoddnbnaaGreatDoor
open Go.RowKit Fl

/-- the greatest amount of those that are numbers -/
def mxN (l : List Nat) : Nat := l.foldl (fun m x => if isN x then m else if m < rg x then rg x else m) 0
/-- the place of the sum of squares -/
def sqP (m : Int) (l : List Nat) : Int := l.foldl (fun s x => opP .add s (opP .mul (opP .quo (pl x) m) (opP .quo (pl x) m))) 0
def hypP (l : List Nat) : Int :=
  if l.any isN then 9223372036854775807 else if l.any isI then 9218868437227405312 else if mxN l = 0 then 0 else opP .mul (mxN l : Int) (sqrtP (sqP (mxN l) l))
theorem mxN_take (l : List Nat) (k x : Nat) (h : l[k]? = some x) : mxN (l.take (k + 1)) = if isN x then mxN (l.take k) else if mxN (l.take k) < rg x then rg x else mxN (l.take k) := by
  unfold mxN
  rw [List.take_add_one, h, List.foldl_append]; rfl
theorem sqP_take (m : Int) (l : List Nat) (k x : Nat) (h : l[k]? = some x) : sqP m (l.take (k + 1)) = opP .add (sqP m (l.take k)) (opP .mul (opP .quo (pl x) m) (opP .quo (pl x) m)) := by
  unfold sqP
  rw [List.take_add_one, h, List.foldl_append]; rfl
theorem any_take {p : Nat → Bool} (l : List Nat) (k x : Nat) (h : l[k]? = some x) : (l.take (k + 1)).any p = ((l.take k).any p || p x) := by
  rw [List.take_add_one, h, List.any_append]; simp
theorem rg_le {x : Nat} (h : isN x = false) : rg x ≤ 9218868437227405312 := by
  have := isN_false h
  unfold INF at this
  omega
theorem mxN_le (l : List Nat) : mxN l ≤ 9218868437227405312 := by
  unfold mxN
  have : ∀ (l : List Nat) (m : Nat), m ≤ 9218868437227405312 → l.foldl (fun m x => if isN x then m else if m < rg x then rg x else m) m ≤ 9218868437227405312 := by
    intro l
    induction l with
    | nil => intro m h; exact h
    | cons x l ih =>
      intro m h
      rw [List.foldl_cons]
      refine ih _ ?_
      by_cases hx : isN x = true
      · rw [if_pos hx]; exact h
      · rw [if_neg hx]
        have := rg_le (Bool.eq_false_iff.2 hx)
        split <;> omega
  exact this l 0 (by omega)
theorem U_le {x : Nat} (h : x ≤ 9218868437227405312) : U x := by unfold U; omega
theorem run_max_pos {P : Program} (ts : Array TypeId) (t : TypeId) (m a : Nat) (hm : m ≤ 9218868437227405312) (ha : a ≤ 9218868437227405312) (w : World) :
    (Builtin.max_ ts t #[.float .f64 m, .float .f64 a]).run P w = .ok (.float .f64 (if m < a then a else m)) w := by
  have h := order_cases m a (U_le hm) (U_le ha)
  have e1 := pl_of_pos m hm
  have e2 := pl_of_pos a ha
  rw [e1, e2] at h
  have z1 : zk (m : Int) = m := by unfold zk; rw [if_neg (by omega)]
  have z2 : zk (a : Int) = a := by unfold zk; rw [if_neg (by omega)]
  have n1 : (m : Int) ≠ 9223372036854775807 := by omega
  have n2 : (a : Int) ≠ 9223372036854775807 := by omega
  simp only [fltP, feqP, z1, z2, n1, n2, ne_eq, not_false_iff, decide_true, Bool.true_and, decide_eq_true_eq] at h
  have hL : ([Value.float .f64 m, Value.float .f64 a] : List Value) = (#[Value.float .f64 m, Value.float .f64 a] : Array Value).toList := rfl
  unfold Builtin.max_
  simp only [List.foldlM_cons, List.foldlM_nil, Builtin.max2]
  by_cases c1 : m < a
  · rw [if_pos (by omega)] at h
    rw [h, if_pos c1]; rfl
  · rw [if_neg (by omega)] at h
    by_cases c2 : m = a
    · rw [if_pos (by omega)] at h
      rw [h, if_neg c1]
      subst c2
      simp
    · rw [if_neg (by omega), if_pos (by omega)] at h
      rw [h, if_neg c1]; rfl
theorem feq_zero {m : Nat} (hm : m ≤ 9218868437227405312) : (FloatKind.f64.format.order m 0 == some Ordering.eq) = decide (m = 0) := by
  rw [f_eq m 0 (U_le hm) U_0, pl_of_pos m hm, pl_0]
  unfold feqP zk
  rw [if_neg (by omega), if_neg (by omega)]
  have n1 : (m : Int) ≠ 9223372036854775807 := by omega
  simp [n1]
theorem gt_pos {m a : Nat} (hm : m ≤ 9218868437227405312) (ha : a ≤ 9218868437227405312) : (FloatKind.f64.format.order a m == some Ordering.gt) = decide (m < a) := by
  rw [f_gt a m (U_le ha) (U_le hm), pl_of_pos m hm, pl_of_pos a ha]
  unfold fltP zk
  rw [if_neg (by omega), if_neg (by omega)]
  have n1 : (m : Int) ≠ 9223372036854775807 := by omega
  have n2 : (a : Int) ≠ 9223372036854775807 := by omega
  simp [n1, n2]
end Go.Proofs.YthohhepoddnbnaaGreatDoor

namespace Go.Proofs.YthohhepoddnbnaaGreatDoor
open Go.RowKit Fl

theorem any_not_at {p : Nat → Bool} {l : List Nat} {k x : Nat} (h : l[k]? = some x) (hp : p x = true) : l.any p = true := List.any_eq_true.2 ⟨x, List.mem_of_getElem? h, hp⟩
set_option maxRecDepth 100000 in
set_option maxHeartbeats 2000000 in
theorem c13 (A : Option Addr) (c : Nat) (l : List Nat) (w : World) (h : FS w A l) (hl : l.length < 4611686018427387904) :
    Calls Tryz.prog 13 #[.slice A l.length c] w fun e w' => RetR (hypP l) e ∧ Below w.heap.size w w' := by
  have H := Lib.hid h
  have HL := Lib.hid hl
  clear h
  go_enter Tryz.func13, Tryz.ntmps13
  go_wp2_with fail
  go_loopw [3, 4, 13] (fun v f i wx => ∃ (k m : Nat) (t : Bool), k ≤ l.length ∧ i = .int .i64 k ∧ v = .float .f64 m ∧ f = .bool t ∧ Hid (m = mxN (l.take k)) ∧ Hid (t = (l.take k).any isI) ∧ Hid ((l.take k).any isN = false) ∧ Hid (Below w.heap.size w wx)) (fun _ _ i _ => l.length - (intOf i).toNat)
  case atStart => exact ⟨0, 0, false, by omega, rfl, rfl, rfl, Lib.hid rfl, Lib.hid rfl, Lib.hid rfl, Lib.hid (Below.refl _ _)⟩
  case round =>
    obtain ⟨k, m, t, hk, rfl, rfl, rfl, hm, ht, hn, hB⟩ := hrel
    by_cases hlt : k < l.length
    · obtain ⟨b, o, rfl, hF⟩ : ∃ b o, A = some ⟨b, o, none⟩ ∧ FL w b o l := H.out.resolve_left (fun e => by rw [e] at hlt; exact absurd hlt (Nat.not_lt_zero _))
      have hki : (k : Int) < (l.length : Int) := by omega
      obtain ⟨x, hx⟩ : ∃ x, l[k]? = some x := ⟨l[k], List.getElem?_eq_getElem hlt⟩
      have HX := Lib.hid hx
      have HLT := Lib.hid hlt
      have hu : U x := hF.u k x hx
      have kc := (hF.below hB.out).cell k x hx
      cases hnx : isN x with
      | true =>
        have HR : Hid (RetR (hypP l) (.returned (.float .f64 x))) := Lib.hid ⟨x, rfl, hu, by rw [pl_nan hnx]; unfold hypP; rw [if_pos (any_not_at hx hnx)]; rfl⟩
        have h34 := Lib.hid (fun wx => c129 x wx hu)
        clear hx hlt hF H hu
        go_wp2_with (go_at_call 34; refine (h34.out _).mono ?_; rw [hnx]; rintro e w' ⟨rfl, rfl⟩)
        go_ret
        exact ⟨HR.out, hB.out⟩
      | false =>
        have h34 := Lib.hid (fun wx => c129 x wx hu)
        have h35 := Lib.hid (fun wx => c130 x wx hu)
        have h57 := Lib.hid (fun wx => c133 x wx hu)
        have hmx := fun (ts : Array TypeId) ty wx => run_max_pos (P := Tryz.prog) ts ty m (rg x) (by rw [hm.out]; exact mxN_le _) (rg_le hnx) wx
        have M2 : Hid ((if m < rg x then rg x else m) = mxN (l.take (k + 1))) := Lib.hid (by rw [mxN_take l k x hx, hnx, if_neg Bool.false_ne_true, hm.out])
        have T2 : Hid ((t || isI x) = (l.take (k + 1)).any isI) := Lib.hid (by rw [any_take l k x hx, ht.out])
        have N2 : Hid ((l.take (k + 1)).any isN = false) := Lib.hid (by rw [any_take l k x hx, hn.out, hnx]; rfl)
        clear hx hlt hF H hu hm ht hn
        obtain ⟨m2, hm2⟩ : ∃ m2, m2 = if m < rg x then rg x else m := ⟨_, rfl⟩
        rw [← hm2] at hmx M2
        clear hm2
        cases t
        · go_wp2_with (first | (go_at_call 34; refine (h34.out _).mono ?_; rw [hnx]; rintro e w' ⟨rfl, rfl⟩) | (go_at_call 35; refine (h35.out _).mono ?_; rintro e w' ⟨rfl, rfl⟩) | (go_at_call 57; refine (h57.out _).mono ?_; rintro e w' ⟨rfl, rfl⟩))
          go_roundw
          case rel => exact ⟨k + 1, m2, isI x, by have := HLT.out; omega, by go_num, rfl, rfl, M2, Lib.hid (by rw [← T2.out]; rfl), N2, hB⟩
          case measure => have := HLT.out; simp [intOf]; omega
        · go_wp2_with (first | (go_at_call 34; refine (h34.out _).mono ?_; rw [hnx]; rintro e w' ⟨rfl, rfl⟩) | (go_at_call 57; refine (h57.out _).mono ?_; rintro e w' ⟨rfl, rfl⟩))
          go_roundw
          case rel => exact ⟨k + 1, m2, true, by have := HLT.out; omega, by go_num, rfl, rfl, M2, Lib.hid (by rw [← T2.out]; rfl), N2, hB⟩
          case measure => have := HLT.out; simp [intOf]; omega
    · have hki : ¬ (k : Int) < (l.length : Int) := by omega
      have hkl : k = l.length := by omega
      rw [hkl, List.take_length] at hm ht hn
      have hml : m ≤ 9218868437227405312 := by rw [hm.out]; exact mxN_le _
      cases t with
      | true =>
        have HR : Hid (RetR (hypP l) (.returned (.float .f64 9218868437227405312))) := Lib.hid ⟨_, rfl, U_le (Nat.le_refl _), by unfold hypP; rw [hn.out, ← ht.out, if_neg Bool.false_ne_true, if_pos rfl]; exact pl_of_pos _ (Nat.le_refl _)⟩
        clear hlt hkl hm ht hn
        go_wp2_with (go_at_call 58; refine (c137p _).mono ?_; rintro e w' ⟨rfl, rfl⟩)
        go_ret
        exact ⟨HR.out, hB.out⟩
      | false =>
        have hz := feq_zero hml
        by_cases hm0 : m = 0
        · have HR : Hid (RetR (hypP l) (.returned (.float .f64 0))) := Lib.hid ⟨_, rfl, U_0, by unfold hypP; rw [hn.out, ← ht.out, ← hm.out, hm0]; simp [pl_0]⟩
          subst hm0
          clear hlt hkl hm ht hn hml hz
          go_wp2
          go_ret
          exact ⟨HR.out, hB.out⟩
        · rw [decide_eq_false hm0] at hz
          have HM : Hid (hypP l = opP .mul (pl m) (sqrtP (sqP (pl m) l))) := Lib.hid (by unfold hypP; rw [hn.out, ← ht.out, ← hm.out, if_neg hm0, pl_of_pos m hml]; simp)
          have HU := Lib.hid (U_le hml)
          clear hlt hkl hm ht hn hml hm0
          go_wp2_with fail

          go_loopw [7, 38] (fun v i wx => ∃ (k r : Nat), k ≤ l.length ∧ i = .int .i64 k ∧ v = .float .f64 r ∧ Hid (U r ∧ pl r = sqP (pl m) (l.take k)) ∧ Hid (Below w.heap.size w wx)) (fun _ i _ => l.length - (intOf i).toNat)
          case atStart => exact ⟨0, 0, by omega, rfl, rfl, Lib.hid ⟨U_0, rfl⟩, hB⟩
          case round =>
            obtain ⟨k, r, hk, rfl, rfl, hr, hB⟩ := hrel
            by_cases hlt : k < l.length
            · obtain ⟨b, o, rfl, hF⟩ : ∃ b o, A = some ⟨b, o, none⟩ ∧ FL w b o l := H.out.resolve_left (fun e => by rw [e] at hlt; exact absurd hlt (Nat.not_lt_zero _))
              have hki : (k : Int) < (l.length : Int) := by omega
              obtain ⟨x, hx⟩ : ∃ x, l[k]? = some x := ⟨l[k], List.getElem?_eq_getElem hlt⟩
              have HLT := Lib.hid hlt
              have hu : U x := hF.u k x hx
              have kc := (hF.below hB.out).cell k x hx
              have hq := fun wx => run_fop (P := Tryz.prog) .quo rfl 22 x m wx
              have hmul := fun q wx => run_fop (P := Tryz.prog) .mul rfl 22 q q wx
              have hadd := fun q wx => run_fop (P := Tryz.prog) .add rfl 22 r q wx
              have R2 : Hid (∀ w1 w2 w3 : World, U (fop .add r (fop .mul (fop .quo x m w1) (fop .quo x m w1) w2) w3) ∧ pl (fop .add r (fop .mul (fop .quo x m w1) (fop .quo x m w1) w2) w3) = sqP (pl m) (l.take (k + 1))) :=
                Lib.hid fun w1 w2 w3 => ⟨U_fop _ _ _ _, by rw [pl_fop .add r _ w3 hr.out.1 (U_fop _ _ _ _), pl_fop .mul _ _ w2 (U_fop _ _ _ _) (U_fop _ _ _ _), pl_fop .quo x m w1 hu HU.out, hr.out.2, sqP_take _ l k x hx]⟩
              have B2 : Hid (∀ n, Below w.heap.size w (wr.drewN n)) := Lib.hid fun n => Bd hB.out n
              clear hx hlt hF H hu hr
              go_wp2
              go_roundw
              case rel => exact ⟨k + 1, _, by have := HLT.out; omega, by go_num, rfl, Lib.hid (R2.out _ _ _), Lib.hid (B2.out _)⟩
              case measure => have := HLT.out; simp [intOf]; omega
            · have hki : ¬ (k : Int) < (l.length : Int) := by omega
              have hkl : k = l.length := by omega
              rw [hkl, List.take_length] at hr
              have HRV : RV r (sqP (pl m) l) := ⟨hr.out.1, hr.out.2⟩
              have h59 := Lib.hid (fun wx => k155 HRV wx)
              have HRQ : Hid (∀ (q : Nat) (wx : World), RV q (sqrtP (sqP (pl m) l)) → RetR (hypP l) (.returned (.float .f64 (fop .mul m q wx)))) := Lib.hid fun q wx hq => ⟨_, rfl, U_fop _ _ _ _, by rw [pl_fop .mul m q wx HU.out hq.1, hq.2, HM.out]⟩
              have hmul := fun q wx => run_fop (P := Tryz.prog) .mul rfl 22 m q wx
              have B2 : Hid (∀ n, Below w.heap.size w (wr.drewN n)) := Lib.hid fun n => Bd hB.out n
              clear hlt hkl hr HRV
              go_wp2_with (go_at_call 59; refine (h59.out _).mono ?_; rintro e w' ⟨⟨q, rfl, hq⟩, n, rfl⟩; replace hq := Lib.hid hq)
              go_ret
              exact ⟨HRQ.out _ _ hq.out, B2.out _⟩
end Go.Proofs.YthohhepoddnbnaaGreatDoor

namespace Go.Proofs.YthohhepoddnbnaaGreatDoor
open Go.RowKit Fl

theorem rg_pos (x : Nat) (hx : isN x = false) : pl (rg x) = (rg x : Int) := pl_of_pos _ (rg_le hx)
theorem gt_any {m x : Nat} (hm : m ≤ 9218868437227405312) (hx : U x) : (FloatKind.f64.format.order (rg x) m == some Ordering.gt) = (!isN x && decide (m < rg x)) := by
  cases hn : isN x with
  | false => rw [gt_pos hm (rg_le hn)]; rfl
  | true =>
    have hr : isN (rg x) = true := by
      have e : rg (rg x) = rg x := by
        have := rg_lt x
        unfold rg at this ⊢
        omega
      unfold isN at hn ⊢
      rw [e]; exact hn
    rw [f_gt (rg x) m (U_rg x) (U_le hm), pl_nan hr]
    unfold fltP NP
    simp
set_option maxRecDepth 100000 in
set_option maxHeartbeats 2000000 in
theorem c14 (A : Option Addr) (c : Nat) (l : List Nat) (w : World) (h : FS w A l) (hl : l.length < 4611686018427387904) :
    Calls Tryz.prog 14 #[.slice A l.length c] w fun e w' => RetR (hypP l) e ∧ Below w.heap.size w w' := by
  have H := Lib.hid h
  have HL := Lib.hid hl
  clear h
  go_enter Tryz.func14, Tryz.ntmps14
  go_wp2_with fail
  go_loopw [3, 4, 5, 6] (fun v n f i wx => ∃ (k m : Nat) (s t : Bool), k ≤ l.length ∧ i = .int .i64 k ∧ v = .float .f64 m ∧ n = .bool s ∧ f = .bool t ∧ Hid (m = mxN (l.take k)) ∧ Hid (t = (l.take k).any isI) ∧ Hid (s = (l.take k).any isN) ∧ Hid (Below w.heap.size w wx)) (fun _ _ _ i _ => l.length - (intOf i).toNat)
  case atStart => exact ⟨0, 0, false, false, by omega, rfl, rfl, rfl, rfl, Lib.hid rfl, Lib.hid rfl, Lib.hid rfl, Lib.hid (Below.refl _ _)⟩
  case round =>
    obtain ⟨k, m, s, t, hk, rfl, rfl, rfl, rfl, hm, ht, hn, hB⟩ := hrel
    have hml : m ≤ 9218868437227405312 := by rw [hm.out]; exact mxN_le _
    by_cases hlt : k < l.length
    · obtain ⟨b, o, rfl, hF⟩ : ∃ b o, A = some ⟨b, o, none⟩ ∧ FL w b o l := H.out.resolve_left (fun e => by rw [e] at hlt; exact absurd hlt (Nat.not_lt_zero _))
      have hki : (k : Int) < (l.length : Int) := by omega
      obtain ⟨x, hx⟩ : ∃ x, l[k]? = some x := ⟨l[k], List.getElem?_eq_getElem hlt⟩
      have HLT := Lib.hid hlt
      have hu : U x := hF.u k x hx
      have kc := (hF.below hB.out).cell k x hx
      have e1 := neq_self x hu
      have e2 := gt_any hml hu
      have h35 := Lib.hid (fun wx => c130 x wx hu)
      have h17 := Lib.hid (fun wx => c171 x wx hu)
      have M2 : Hid ((if (!isN x && decide (m < rg x)) = true then rg x else m) = mxN (l.take (k + 1))) := Lib.hid (by
        rw [mxN_take l k x hx, hm.out]
        cases isN x
        · by_cases h : mxN (l.take k) < rg x
          · simp [h]
          · simp [h]
        · simp)
      have T2 : Hid ((t || isI x) = (l.take (k + 1)).any isI) := Lib.hid (by rw [any_take l k x hx, ht.out])
      have N2 : Hid ((s || isN x) = (l.take (k + 1)).any isN) := Lib.hid (by rw [any_take l k x hx, hn.out])
      clear hx hlt hF H hu hm ht hn
      obtain ⟨g, hg⟩ : ∃ g, g = (!isN x && decide (m < rg x)) := ⟨_, rfl⟩
      rw [← hg] at e2 M2
      clear hg
      obtain ⟨z, hz⟩ : ∃ z, z = isN x := ⟨_, rfl⟩
      rw [← hz] at e1 N2
      clear hz
      cases s <;> cases t <;> cases g <;> cases z
      all_goals
        go_upto_region 7 with fail
        go_quiet (fail)
        go_wp2_with (first | (go_at_call 35; refine (h35.out _).mono ?_; rintro e w' ⟨rfl, rfl⟩) | (go_at_call 17; refine (h17.out _).mono ?_; rintro e w' ⟨rfl, rfl⟩))
        go_roundw
        case rel => exact ⟨k + 1, _, _, _, by have := HLT.out; omega, by go_num, rfl, rfl, rfl, Lib.hid (by rw [← M2.out]; rfl), Lib.hid (by rw [← T2.out]; rfl), Lib.hid (by rw [← N2.out]; rfl), Lib.hid (Bd hB.out _)⟩
        case measure => have := HLT.out; simp [intOf]; omega
    · have hki : ¬ (k : Int) < (l.length : Int) := by omega
      have hkl : k = l.length := by omega
      rw [hkl, List.take_length] at hm ht hn
      cases s with
      | true =>
        have HR : Hid (RetR (hypP l) (.returned (.float .f64 QN))) := Lib.hid ⟨_, rfl, U_QN, by unfold hypP; rw [← hn.out, if_pos rfl]; exact pl_QN⟩
        clear hlt hkl hm ht hn
        go_wp2_with (go_at_call 36; refine (c135 _).mono ?_; rintro e w' ⟨rfl, rfl⟩)
        go_ret
        exact ⟨HR.out, hB.out⟩
      | false =>
      cases t with
      | true =>
        have HR : Hid (RetR (hypP l) (.returned (.float .f64 9218868437227405312))) := Lib.hid ⟨_, rfl, U_le (Nat.le_refl _), by unfold hypP; rw [← hn.out, ← ht.out, if_neg Bool.false_ne_true, if_pos rfl]; exact pl_of_pos _ (Nat.le_refl _)⟩
        clear hlt hkl hm ht hn
        go_wp2_with (go_at_call 58; refine (c137p _).mono ?_; rintro e w' ⟨rfl, rfl⟩)
        go_ret
        exact ⟨HR.out, hB.out⟩
      | false =>
        have hz := feq_zero hml
        by_cases hm0 : m = 0
        · have HR : Hid (RetR (hypP l) (.returned (.float .f64 0))) := Lib.hid ⟨_, rfl, U_0, by unfold hypP; rw [← hn.out, ← ht.out, ← hm.out, hm0]; simp [pl_0]⟩
          subst hm0
          clear hlt hkl hm ht hn hml hz
          go_wp2
          go_ret
          exact ⟨HR.out, hB.out⟩
        · rw [decide_eq_false hm0] at hz
          have HM : Hid (hypP l = opP .mul (pl m) (sqrtP (sqP (pl m) l))) := Lib.hid (by unfold hypP; rw [← hn.out, ← ht.out, ← hm.out, if_neg hm0, pl_of_pos m hml]; simp)
          have HU := Lib.hid (U_le hml)
          clear hlt hkl hm ht hn hml hm0
          go_wp2_with fail
          go_loopw [8, 9] (fun v i wx => ∃ (k r : Nat), k ≤ l.length ∧ i = .int .i64 k ∧ v = .float .f64 r ∧ Hid (U r ∧ pl r = sqP (pl m) (l.take k)) ∧ Hid (Below w.heap.size w wx)) (fun _ i _ => l.length - (intOf i).toNat)
          case atStart => exact ⟨0, 0, by omega, rfl, rfl, Lib.hid ⟨U_0, rfl⟩, hB⟩
          case round =>
            obtain ⟨k, r, hk, rfl, rfl, hr, hB⟩ := hrel
            by_cases hlt : k < l.length
            · obtain ⟨b, o, rfl, hF⟩ : ∃ b o, A = some ⟨b, o, none⟩ ∧ FL w b o l := H.out.resolve_left (fun e => by rw [e] at hlt; exact absurd hlt (Nat.not_lt_zero _))
              have hki : (k : Int) < (l.length : Int) := by omega
              obtain ⟨x, hx⟩ : ∃ x, l[k]? = some x := ⟨l[k], List.getElem?_eq_getElem hlt⟩
              have HLT := Lib.hid hlt
              have hu : U x := hF.u k x hx
              have kc := (hF.below hB.out).cell k x hx
              have hq := fun wx => run_fop (P := Tryz.prog) .quo rfl 22 x m wx
              have hmul := fun q wx => run_fop (P := Tryz.prog) .mul rfl 22 q q wx
              have hadd := fun q wx => run_fop (P := Tryz.prog) .add rfl 22 r q wx
              have R2 : Hid (∀ w1 w2 w3 : World, U (fop .add r (fop .mul (fop .quo x m w1) (fop .quo x m w1) w2) w3) ∧ pl (fop .add r (fop .mul (fop .quo x m w1) (fop .quo x m w1) w2) w3) = sqP (pl m) (l.take (k + 1))) :=
                Lib.hid fun w1 w2 w3 => ⟨U_fop _ _ _ _, by rw [pl_fop .add r _ w3 hr.out.1 (U_fop _ _ _ _), pl_fop .mul _ _ w2 (U_fop _ _ _ _) (U_fop _ _ _ _), pl_fop .quo x m w1 hu HU.out, hr.out.2, sqP_take _ l k x hx]⟩
              have B2 : Hid (∀ n, Below w.heap.size w (wr.drewN n)) := Lib.hid fun n => Bd hB.out n
              clear hx hlt hF H hu hr
              go_wp2
              go_roundw
              case rel => exact ⟨k + 1, _, by have := HLT.out; omega, by go_num, rfl, Lib.hid (R2.out _ _ _), Lib.hid (B2.out _)⟩
              case measure => have := HLT.out; simp [intOf]; omega
            · have hki : ¬ (k : Int) < (l.length : Int) := by omega
              have hkl : k = l.length := by omega
              rw [hkl, List.take_length] at hr
              have HRV : RV r (sqP (pl m) l) := ⟨hr.out.1, hr.out.2⟩
              have h59 := Lib.hid (fun wx => k155 HRV wx)
              have HRQ : Hid (∀ (q : Nat) (wx : World), RV q (sqrtP (sqP (pl m) l)) → RetR (hypP l) (.returned (.float .f64 (fop .mul m q wx)))) := Lib.hid fun q wx hq => ⟨_, rfl, U_fop _ _ _ _, by rw [pl_fop .mul m q wx HU.out hq.1, hq.2, HM.out]⟩
              have hmul := fun q wx => run_fop (P := Tryz.prog) .mul rfl 22 m q wx
              have B2 : Hid (∀ n, Below w.heap.size w (wr.drewN n)) := Lib.hid fun n => Bd hB.out n
              clear hlt hkl hr HRV
              go_wp2_with (go_at_call 59; refine (h59.out _).mono ?_; rintro e w' ⟨⟨q, rfl, hq⟩, n, rfl⟩; replace hq := Lib.hid hq)
              go_ret
              exact ⟨HRQ.out _ _ hq.out, B2.out _⟩
end Go.Proofs.YthohhepoddnbnaaGreatDoor
