/- Laws of rows and orders that SceneStands needs besides. -/
import Derived.Test.YtedkbjimofiphaaAcc
import Derived.Test.YtedkbjimofiphaaAccE
import Derived.Test.YtedkbjimofiphaaArC
import Derived.Test.YtedkbjimofiphaaBulk
import Derived.Test.YtedkbjimofiphaaF32
import Derived.Test.YtedkbjimofiphaaGeoM3
import Derived.Test.YtedkbjimofiphaaGeoO
import Derived.Test.YtedkbjimofiphaaGeoX
import Derived.Test.YtedkbjimofiphaaLenA
import Derived.Test.YtedkbjimofiphaaMgAccF
import Derived.Test.YtedkbjimofiphaaMgAccH
import Derived.Test.YtedkbjimofiphaaMgAlive
import Derived.Test.YtedkbjimofiphaaMgArA
import Derived.Test.YtedkbjimofiphaaMgBase
import Derived.Test.YtedkbjimofiphaaMgBdB
import Derived.Test.YtedkbjimofiphaaMgCnA
import Derived.Test.YtedkbjimofiphaaMgFl
import Derived.Test.YtedkbjimofiphaaMgGeoA
import Derived.Test.YtedkbjimofiphaaMgGeoE
import Derived.Test.YtedkbjimofiphaaMgGeoW
import Derived.Test.YtedkbjimofiphaaMgGeoZ
import Derived.Test.YtedkbjimofiphaaMgInvC
import Derived.Test.YtedkbjimofiphaaMgItB
import Derived.Test.YtedkbjimofiphaaMgJoin
import Derived.Test.YtedkbjimofiphaaMgLen
import Derived.Test.YtedkbjimofiphaaMgOpA
import Derived.Test.YtedkbjimofiphaaMgPtA
import Derived.Test.YtedkbjimofiphaaMgPtC
import Derived.Test.YtedkbjimofiphaaMgPtD
import Derived.Test.YtedkbjimofiphaaMgPtH
import Derived.Test.YtedkbjimofiphaaMgPtI
import Derived.Test.YtedkbjimofiphaaMgRdD
import Derived.Test.YtedkbjimofiphaaMgRdE
import Derived.Test.YtedkbjimofiphaaMgRelS
import Derived.Test.YtedkbjimofiphaaMgRpB
import Derived.Test.YtedkbjimofiphaaMgRwC
import Derived.Test.YtedkbjimofiphaaMgSrA
import Derived.Test.YtedkbjimofiphaaMgSrF
import Derived.Test.YtedkbjimofiphaaMgSrG
import Derived.Test.YtedkbjimofiphaaMgSrJ
import Derived.Test.YtedkbjimofiphaaMgSrt
import Derived.Test.YtedkbjimofiphaaMgTtB
import Derived.Test.YtedkbjimofiphaaOpB
import Derived.Test.YtedkbjimofiphaaOpenF
import Derived.Test.YtedkbjimofiphaaRel
import Derived.Test.YtedkbjimofiphaaRelU
import Derived.Test.YtedkbjimofiphaaSpB
import Derived.Test.YtedkbjimofiphaaSpC
import Derived.Test.YtedkbjimofiphaaSpD
import Derived.Test.YtedkbjimofiphaaSrL
import Derived.Test.YtedkbjimofiphaaSumK
import Derived.Test.YtedkbjimofiphaaSumN
namespace Go.Proofs.Ytedkbjimofiphaa
section
variable {n : Nat} {ab : Nat → Option Nat} {key : Nat → Int}
variable (H : ∀ i k, i < n → ab i = some k → k < i)
include H
/-- how many stand beneath -/
def cnt (n : Nat) (ab : Nat → Option Nat) (key : Nat → Int) (i : Nat) : Nat := (tr n ab key i).length
omit H in
theorem flat_len {l : List Nat} {g : Nat → List Nat} : (l.flatMap g).length = (l.map (fun x => (g x).length)).sum := by
  induction l with
  | nil => rfl
  | cons x l ih => rw [List.flatMap_cons, List.length_append, ih]; simp
theorem cntT_step (i : Nat) : cnt n ab key i = 1 + ((kids n ab (some i)).map (cnt n ab key)).sum := by
  unfold cnt
  rw [tr_step H, List.length_cons, flat_len, Nat.add_comm, ((stab_perm key _).map _).sum_nat]
/-- where one stands, and how far what is beneath it goes -/
theorem inside {P Q P' Q' : List Nat} {i x : Nat} (hx : x < n) (ha : ab x = some i) (e : whole n ab key = P ++ i :: Q) (e' : whole n ab key = P' ++ x :: Q') :
    P.length < P'.length ∧ P'.length + cnt n ab key x ≤ P.length + cnt n ab key i := by
  have hi : i < n := by have := H x i hx ha; omega
  have uniq : ∀ {A B C D : List Nat} {z : Nat}, whole n ab key = A ++ z :: B → whole n ab key = C ++ z :: D → A.length = C.length := fun {A B C D z} h h2 => by
    have nd := whole_nodup H (key := key)
    have l1 : (whole n ab key)[A.length]? = some z := by rw [h]; exact get_mid rfl
    have l2 : (whole n ab key)[C.length]? = some z := by rw [h2]; exact get_mid rfl
    obtain ⟨b1, v1⟩ := List.getElem?_eq_some_iff.1 l1
    obtain ⟨b2, v2⟩ := List.getElem?_eq_some_iff.1 l2
    exact (List.getElem_inj nd).1 (v1.trans v2.symm)
  obtain ⟨A, B, eA⟩ := whole_infix H (key := key) i hi
  obtain ⟨C, D, eC⟩ := tr_under H (key := key) hx ha
  have h1 : whole n ab key = A ++ i :: (C ++ tr n ab key x ++ D ++ B) := by rw [eA, eC]; simp
  have lA := uniq e h1
  have h2 : whole n ab key = (A ++ i :: C) ++ x :: ((stab key (kids n ab (some x))).flatMap (tr n ab key) ++ D ++ B) := by
    rw [eA, eC, tr_step H x]; simp
  have lC := uniq e' h2
  rw [lA, lC]
  unfold cnt
  rw [eC]
  simp only [List.length_append, List.length_cons]
  omega
omit H in
theorem stab_same {l : List Nat} (h : ∀ x ∈ l, ∀ y ∈ l, key x = key y) : stab key l = l := by
  induction l using snoc_ind with
  | h0 => rfl
  | h1 l x ih =>
    have e := ih fun y hy z hz => h y (List.mem_append_left _ hy) z (List.mem_append_left _ hz)
    rw [stab_snoc, e]
    have := mg_one key (s1 := l) (s2 := []) (x := x) (fun y hy => Int.le_of_eq (h y (List.mem_append_left _ hy) x (by simp))) (fun y hy => by cases hy)
    rwa [List.append_nil] at this
/-- as Lay tells boxes -/
def LayOK (n : Nat) (ab : Nat → Option Nat) : Prop := ∀ j k, j < n → ab j = some k → 0 < j ∧ Up n ab k (j - 1)
omit H in
theorem Up.between (L : LayOK n ab) {i x : Nat} (h : Up n ab i x) : ∀ y, i ≤ y → y ≤ x → Up n ab i y := by
  have : ∀ d x, Up n ab i (x + d) → i ≤ x → Up n ab i x := fun d => by
    induction d with
    | zero => exact fun _ h _ => h
    | succ d ih =>
      intro x h hx
      refine ih x ?_ hx
      generalize e : x + (d + 1) = z at h
      cases h with
      | self => omega
      | @step _ k hz ha hk =>
        have := (L _ _ hz ha).2
        have e2 : z - 1 = x + d := by omega
        exact hk.trans (e2 ▸ this)
  intro y hy hx
  exact this (x - y) y (by rw [Nat.add_sub_cancel' hx]; exact h) hy
omit H in
theorem flat_sorted {l : List Nat} {g : Nat → List Nat} (h : l.Pairwise (· < ·)) (h1 : ∀ x ∈ l, (g x).Pairwise (· < ·)) (h2 : ∀ x ∈ l, ∀ y ∈ l, x < y → ∀ a ∈ g x, ∀ b ∈ g y, a < b) : (l.flatMap g).Pairwise (· < ·) := by
  induction l with
  | nil => exact .nil
  | cons x l ih =>
    rw [List.flatMap_cons, List.pairwise_append]
    have hn := List.pairwise_cons.1 h
    refine ⟨h1 x (List.mem_cons_self ..), ih hn.2 (fun y hy => h1 y (List.mem_cons_of_mem _ hy)) (fun y hy z hz => h2 y (List.mem_cons_of_mem _ hy) z (List.mem_cons_of_mem _ hz)), ?_⟩
    intro a ha b hb
    obtain ⟨y, hy, hby⟩ := List.mem_flatMap.1 hb
    exact h2 x (List.mem_cons_self ..) y (List.mem_cons_of_mem _ hy) (hn.1 y hy) a ha b hby
omit H in
theorem kids_sorted (p : Option Nat) : (kids n ab p).Pairwise (· < ·) := List.pairwise_lt_range.filter _
theorem row_sorted (L : LayOK n ab) {p : Option Nat} (hk : ∀ x y : Nat, x < n → y < n → key x = key y) (h : ∀ x ∈ kids n ab p, (tr n ab key x).Pairwise (· < ·)) : ((stab key (kids n ab p)).flatMap (tr n ab key)).Pairwise (· < ·) := by
  rw [stab_same fun x hx y hy => hk x y (mem_kids.1 hx).1 (mem_kids.1 hy).1]
  refine flat_sorted (kids_sorted p) h fun x hx y hy hxy a ha b hb => ?_
  have hx := mem_kids.1 hx
  have hy := mem_kids.1 hy
  have ua := (mem_tr H).1 ha
  have ub := (mem_tr H).1 hb
  have lb := ub.le H
  rcases Nat.lt_or_ge a y with h | h
  · omega
  · have := ua.between L y (by omega) h
    have := sibs H hx.1 hy.1 hx.2 hy.2 this .self
    omega
theorem tr_sorted (L : LayOK n ab) (hk : ∀ x y : Nat, x < n → y < n → key x = key y) (d : Nat) : ∀ i, n ≤ i + d → (tr n ab key i).Pairwise (· < ·) := by
  induction d with
  | zero =>
    intro i hi
    have e : kids n ab (some i) = [] := List.eq_nil_iff_forall_not_mem.2 fun x hx => by
      have := mem_kids.1 hx
      have := H x i this.1 this.2
      omega
    rw [tr_step H, e]
    exact List.pairwise_singleton ..
  | succ d ih =>
    intro i hi
    rw [tr_step H, List.pairwise_cons]
    refine ⟨fun x h => ?_, row_sorted H L hk fun x hx => ?_⟩
    · obtain ⟨y, hy, hi⟩ := List.mem_flatMap.1 h
      have hy := mem_kids.1 (mem_stab.1 hy)
      have := H y i hy.1 hy.2
      have := ((mem_tr H).1 hi).le H
      omega
    · have hx := mem_kids.1 hx
      have := H x i hx.1 hx.2
      exact ih x (by omega)
theorem whole_range (L : LayOK n ab) (hk : ∀ x y : Nat, x < n → y < n → key x = key y) : whole n ab key = List.range n :=
  (whole_perm H).eq_of_pairwise (le := (· < ·)) (fun a b _ _ h1 h2 => by omega) (row_sorted H L hk fun x _ => tr_sorted H L hk n x (by omega)) List.pairwise_lt_range
end
section
open Go.RowKit Fl
theorem made_one (v : Value) (n : Nat) : (madeCells #[v] (n * 1)).toList = List.replicate n v := by
  rw [Nat.mul_one]
  apply List.ext_getElem
  · simp [size_madeCells]
  · intro i h1 h2
    simp [madeCells, Nat.mod_one]
end
section
open Go.RowKit Fl
set_option maxRecDepth 100000 in
set_option maxHeartbeats 1000000 in
theorem c13n (w : World) (A : Option Addr) (c aq bq lq : Nat) : Calls Try.prog 13 #[.slice A 0 c, .func (.func 26) #[] #[.pointer (some ⟨aq, 0, none⟩), .pointer (some ⟨bq, 0, none⟩), .pointer (some ⟨lq, 0, none⟩)]] w fun e w' => ∃ ov, e = .returned ov ∧ w'.ownsRow w.heap.size 60 23 ov 0 [] ∧ Below w.heap.size w w' := by
  obtain ⟨w1, mk, hg1, cs, hown, -⟩ := made90 w 0 (by omega)
  have mk0 : (Instr.makeSlice 87 (.int .i64 0) (.int .i64 0)).run Try.prog w = .ok (.slice (some ⟨w.heap.size, 0, none⟩) 0 0) w1 := mk
  have hl : w.heap.size < w1.heap.size := (hown.lt _ rfl).2
  have B1 : Below w.heap.size w w1 := (Keep.of_grown2 (ex := fun _ => False) hg1 (Nat.le_refl _) (fun k hk => by cases hk)).below _ (Nat.le_refl _) (fun _ _ h => h)
  have HC := Lib.hid (c38 w1 w.heap.size w.heap.size 0 0 (fun _ => 0) _ _ _ _ (PH.none hl B1.size))
  have HB := Lib.hid B1
  clear hg1 hown hl B1 mk
  have heq : (binOp .eql 81 (.func (.func 26) #[] #[.pointer (some ⟨aq, 0, none⟩), .pointer (some ⟨bq, 0, none⟩), .pointer (some ⟨lq, 0, none⟩)]) .nilFunc).run Try.prog w = .ok (.bool false) w := rfl
  go_enter Try.func13, Try.ntmps13
  go_wp2_with fail
  go_loopw [6, 7, 8, 9, 10, 11, 12, 20] (fun tv _ _ _ _ _ _ ii wx => tv = .slice none 0 0 ∧ ii = .int .i64 0 ∧ wx = w1) (fun _ _ _ _ _ _ _ ii _ => 0)
  case atStart => exact ⟨rfl, rfl, rfl⟩
  case round =>
    obtain ⟨rfl, rfl, rfl⟩ := hrel
    go_wp2_with fail
    go_at_call 38
    refine HC.out.mono fun e w' ⟨ov, he, ho, hb, hk⟩ => ?_
    subst he
    have HO := Lib.hid (And.intro ho hb)
    clear ho hb hk
    go_wp2
    go_ret
    exact ⟨ov, rfl, owned_rebase HO.out.1 (fun g hg => by have := (HO.out.1.lt g hg).1; have := HB.out.size; omega), HB.out.trans HO.out.2⟩
end
section
open Go.RowKit Fl
set_option maxRecDepth 100000 in
set_option maxHeartbeats 1000000 in
theorem c8n (w : World) (A : Option Addr) (c : Nat) : Calls Try.prog 8 #[.slice A 0 c, .slice none 0 0] w fun e w' => ∃ ov, e = .returned (.tuple #[ov, .slice none 0 0]) ∧
      w'.ownsRow w.heap.size 60 23 ov 0 [] ∧ Below w.heap.size w w' := by
  obtain ⟨W, hW, B1, x1, x2, x3, x4, x5⟩ := start8 w (.slice A 0 c) (.slice none 0 0)
  have HW := Lib.hid hW
  have BH := Lib.hid B1
  have X5 := Lib.hid x5
  have HC := Lib.hid (c13n W A c (w.heap.size + 2) w.heap.size (w.heap.size + 1))
  have X3 := Lib.hid x3
  clear B1 x2 x5 x3 x4
  go_enter Try.func8, Try.ntmps8
  go_upto_region 2 with fail
  show Code.wp _ _ _ _ (((w.alloc (.cells #[.slice A 0 c] 24)).alloc (.cells #[.slice none 0 0] 25)).alloc (.cells #[.slice none 0 0] 37))
  rw [← hW]
  clear hW
  go_wp2_with fail
  go_at_call 13
  refine HC.out.mono fun e w2 ⟨ov, he, ho, hk⟩ => ?_
  subst he
  have y1 : w2.cell? ⟨w.heap.size + 2, 0, none⟩ = some (.slice none 0 0) := (World.cell?_of_block (w := W) (hk.block (w.heap.size + 2) (by rw [X5.out]; omega))).trans X3.out
  have PO := Lib.hid (And.intro ho hk)
  clear ho hk HC x1
  obtain ⟨po, co, rfl, -⟩ := owned_slice PO.out.1
  go_upto_region 3 with fail
  go_quiet (fail)
  go_wp2
  go_ret2
  have h1 := X5.out
  have h2 := PO.out
  exact ⟨_, rfl, owned_at (owned_rebase h2.1 fun g hg => by have := (h2.1.lt g hg).1; omega) fun _ _ _ => rfl, below_drewN (BH.out.trans (h2.2.mono (by omega)))⟩
end
section
open Go.RowKit Fl
set_option maxRecDepth 100000 in
set_option maxHeartbeats 1000000 in
theorem c7z (w : World) (A : Option Addr) (c : Nat) : Calls Try.prog 7 #[.slice A 0 c] w fun e w' => e = .returned (.tuple #[.slice none 0 0, .slice none 0 0]) ∧ w = w' := by
  have d0 : decide ((0 : Int) < 0) = false := by decide
  go_enter Try.func7, Try.ntmps7
  go_wp2_with fail
  go_loopw [4, 5, 6] (fun bv lv ii wx => bv = .slice none 0 0 ∧ lv = .slice none 0 0 ∧ ii = .int .i64 0 ∧ w = wx) (fun _ _ _ _ => 0)
  case atStart => exact ⟨rfl, rfl, by go_num, rfl⟩
  case round =>
    obtain ⟨rfl, rfl, rfl, rfl⟩ := hrel
    go_wp2
    go_ret2
    exact ⟨rfl, rfl⟩
end
section
open Go.RowKit Fl
theorem abO_OK {b : Nat → BX} {n : Nat} : ∀ i k, i < n → abO b i = some k → k < i := fun _ _ _ h => abO_lt h
theorem wl_lt {b : Nat → BX} {L : Nat → LK} {n k : Nat} (hk : k < n) : (whole n (abO b) (kf (lvO L))).getD k 0 < n := by
  have hl := whole_length (key := kf (lvO L)) (abO_OK (b := b) (n := n))
  rw [List.getD_eq_getElem?_getD, List.getElem?_eq_getElem (by omega)]
  exact (mem_whole (abO_OK (b := b) (n := n)) (key := kf (lvO L))).1 (List.getElem_mem (by omega))
theorem PA_OK {b : Nat → BX} {L : Nat → LK} {n : Nat} {MS : Nat → List Nat} {OS : Nat → Nat} (hb : ∀ i, i < n → (b i).OK) (h : PR b L n MS OS) : ∀ k, k < n → (PA b L n MS OS k).OK := fun k hk => by
  have hi := wl_lt (b := b) (L := L) hk
  exact ⟨U_zero, U_zero, (hb _ hi).w, (hb _ hi).h, h.mu _ hi, h.ou _ hi⟩
theorem PA_at {w : World} {b : Nat → BX} {L : Nat → LK} {n base g c : Nat} {MS : Nat → List Nat} {OS : Nat → Nat} (hb : ∀ i, i < n → (b i).OK) (h : PR b L n MS OS) (ho : w.ownsRow base 60 23 (.slice (some ⟨g, 0, none⟩) n c) n ((whole n (abO b) (kf (lvO L))).flatMap fun i => itCells (b i) (MS i) (OS i))) :
    ∀ k, k < n → w.rangeAt g (k * 23) (PA b L n MS OS k).cells := fun k hk => by
  rw [flat_getD, whole_length (key := kf (lvO L)) (abO_OK (b := b) (n := n))] at ho
  exact owned_rec (f := fun k => (PA b L n MS OS k).cells) (fun k hk => ITM.len (PA_OK hb h k hk)) ho hk
theorem bxOK {s : SH} (h : s.OK) : s.bx.OK := ⟨h.x, h.y, h.w, h.h⟩
end
section
open Go.ChangeShapes Go.WideShapes Go.RowKit Go.Deep
variable {H : Type} {enc : TypeId × Value → H} {w : World}
theorem cO56 : Try.prog.cellsOf 56 = 24 := by kernel_rfl
set_option maxRecDepth 100000 in
theorem open_shape {n : Nat} {cs : List Value} {y : DataW H × List MemPlace} (h : DataW.trod enc Try.prog w 0 (fun _ => true) true n 56 cs = some y) : ∃ s : SH, cs = s.cells ∧ s.OK := by
  obtain ⟨xs, n', _, _, hl, hxl, hf⟩ := DataW.trod_struct Try.underlying56 h
  rw [cO56] at hl
  have hxl : xs.length = 6 := hxl
  have e0 : DataW.trod enc Try.prog w 0 (fun _ => true) true n' 3 (List.take (Try.prog.cellsOf 3) (List.drop 0 cs)) = some (xs[0]'(by omega)) := (hf 0 _ rfl).trans (List.getElem?_eq_getElem (by omega))
  have e1 : DataW.trod enc Try.prog w 0 (fun _ => true) true n' 3 (List.take (Try.prog.cellsOf 3) (List.drop 1 cs)) = some (xs[1]'(by omega)) := (hf 1 _ rfl).trans (List.getElem?_eq_getElem (by omega))
  have e2 : DataW.trod enc Try.prog w 0 (fun _ => true) true n' 33 (List.take (Try.prog.cellsOf 33) (List.drop 2 cs)) = some (xs[2]'(by omega)) := (hf 2 _ rfl).trans (List.getElem?_eq_getElem (by omega))
  have e3 : DataW.trod enc Try.prog w 0 (fun _ => true) true n' 44 (List.take (Try.prog.cellsOf 44) (List.drop 6 cs)) = some (xs[3]'(by omega)) := (hf 3 _ rfl).trans (List.getElem?_eq_getElem (by omega))
  have e4 : DataW.trod enc Try.prog w 0 (fun _ => true) true n' 31 (List.take (Try.prog.cellsOf 31) (List.drop 22 cs)) = some (xs[4]'(by omega)) := (hf 4 _ rfl).trans (List.getElem?_eq_getElem (by omega))
  have e5 : DataW.trod enc Try.prog w 0 (fun _ => true) true n' 31 (List.take (Try.prog.cellsOf 31) (List.drop 23 cs)) = some (xs[5]'(by omega)) := (hf 5 _ rfl).trans (List.getElem?_eq_getElem (by omega))
  rw [cO3] at e0 e1
  rw [cO33] at e2
  rw [cO44] at e3
  rw [cO31] at e4 e5
  obtain ⟨a, ha, _, _⟩ := DataW.trod_int Try.underlying3 e0
  obtain ⟨b, hb, _, _⟩ := DataW.trod_int Try.underlying3 e1
  obtain ⟨x, y, u, v, hr, ux, uy, uu, uv⟩ := trod_rect e2
  obtain ⟨ms, hm, hM⟩ := trod_mat e3 (by show (List.take 16 (List.drop 6 cs)).length = 16; rw [List.length_take, List.length_drop]; omega)
  obtain ⟨v4, h4⟩ := take_one (l := cs) (k := 22) (by omega)
  obtain ⟨v5, h5⟩ := take_one (l := cs) (k := 23) (by omega)
  have e4 : DataW.trod enc Try.prog w 0 (fun _ => true) true n' 31 ((cs.drop 22).take 1) = some xs[4] := e4
  have e5 : DataW.trod enc Try.prog w 0 (fun _ => true) true n' 31 ((cs.drop 23).take 1) = some xs[5] := e5
  rw [h4] at e4
  rw [h5] at e5
  obtain ⟨o, rfl, wo⟩ := trod_float1 Try.underlying31 e4
  obtain ⟨l, rfl, wl⟩ := trod_float1 Try.underlying31 e5
  have ha : (cs.drop 0).take 1 = [.int .i64 a] := ha
  have hb : (cs.drop 1).take 1 = [.int .i64 b] := hb
  have hr : (cs.drop 2).take 4 = [.float .f64 x, .float .f64 y, .float .f64 u, .float .f64 v] := hr
  have hm : (cs.drop 6).take 16 = ms.map (Value.float .f64) := hm
  refine ⟨⟨a, b, x, y, u, v, ms, o, l⟩, ?_, ⟨ux, uy, uu, uv, hM, U_of_wf wo, U_of_wf wl⟩⟩
  have z : cs.drop 24 = [] := List.drop_eq_nil_of_le (by omega)
  have key : cs.drop 0 = [.int .i64 a] ++ ([.int .i64 b] ++ ([.float .f64 x, .float .f64 y, .float .f64 u, .float .f64 v] ++ (ms.map (Value.float .f64) ++ ([.float .f64 o] ++ ([.float .f64 l] ++ []))))) := by
    rw [cut1 (l := cs) (k := 0) 1, ha, cut1 (l := cs) (k := 0 + 1) 1, hb, cut1 (l := cs) (k := 0 + 1 + 1) 4, hr, cut1 (l := cs) (k := 0 + 1 + 1 + 4) 16, hm, cut1 (l := cs) (k := 0 + 1 + 1 + 4 + 16) 1, h4, cut1 (l := cs) (k := 0 + 1 + 1 + 4 + 16 + 1) 1, h5, z]
  rw [List.drop_zero] at key
  rw [key]
  simp [SH.cells]
end
section
open Go.ChangeShapes Go.WideShapes Go.RowKit Go.Deep
set_option maxRecDepth 100000 in
theorem open_structs {H : Type} {enc : TypeId × Value → H} {w : World} {r : Reach} {B0 : Nat} {v : Value} {d : DataW H} {p : List MemPlace} {t e : TypeId} {α : Type} (q0 : α) (f : α → List Value) (ok : α → Prop) (s : Nat) (hs : 0 < s) (hu : Try.prog.underlying t = some (.slice e)) (hc : Try.prog.cellsOf e = s) (hlen : ∀ q, ok q → (f q).length = s)
    (ho : ∀ n cs (y : DataW H × List MemPlace), DataW.trod enc Try.prog w 0 (fun _ => true) true n e cs = some y → ∃ q, cs = f q ∧ ok q) (hv : Value.okWide Try.prog w r B0 t v) (h : DataW.Trod enc Try.prog w 0 (fun _ => true) true t v d p) :
    ∃ (A : Option Addr) (S : Nat → α) (n c : Nat), v = .slice A n c ∧ SL w A n s S f ∧ (∀ k, k < n → ok (S k)) ∧ n ≤ c ∧ LenD d c := by
  obtain ⟨A, len, cap, rfl⟩ := okWide_slice hu hv
  obtain ⟨fuel, hf⟩ := h
  rcases Go.Deep.open_slice hu hf with ⟨h1, h2⟩ | ⟨a, len', cap', m, n, D, Pl, h1, _, hl, hm, hmm, h2, hx⟩
  · simp [Value.cells] at h1
    obtain ⟨rfl, rfl, rfl⟩ := h1
    simp only [Prod.mk.injEq] at h2
    exact ⟨none, fun _ => q0, 0, 0, rfl, .inl rfl, fun k hk => absurd hk (Nat.not_lt_zero _), Nat.le_refl _, .inl ⟨h2.1, rfl⟩⟩
  · simp [Value.cells] at h1
    obtain ⟨rfl, rfl, rfl⟩ := h1
    simp only [if_true] at hmm
    subst hmm
    rw [hc] at hx
    simp only [Prod.mk.injEq] at h2
    have key : ∀ i, ∃ q : α, i < len → ok q ∧ ∀ j, j < s → w.cell? (a.add (i * s + j)) = (f q)[j]? := fun i => by
      by_cases hi : i < len
      · obtain ⟨cs', hcs, ht⟩ := hx i (by omega)
        obtain ⟨q, hq, hok⟩ := ho _ _ _ ht
        obtain ⟨_, _, hat⟩ := World.cells?_some hcs
        refine ⟨q, fun _ => ⟨hok, fun j hj => ?_⟩⟩
        rw [← Go.Deep.add_add, hat j hj, hq]
      · exact ⟨q0, fun h => absurd h hi⟩
    obtain ⟨g, hf2⟩ := Classical.axiomOfChoice key
    refine ⟨some a, g, len, m, rfl, ?_, fun k hk => (hf2 k hk).1, hl, .inr ⟨_, _, h2.1, by rw [List.length_map, List.length_map, List.length_range, List.length_range]; omega⟩⟩
    by_cases h0 : len = 0
    · exact .inl h0
    · right
      obtain ⟨b, o, x⟩ := a
      have h00 := (hf2 0 (by omega)).2 0 hs
      have hl0 := hlen _ (hf2 0 (by omega)).1
      rw [List.getElem?_eq_getElem (by omega)] at h00
      have hx0 : x = none := by simpa [Addr.add] using World.cell?_spot h00
      subst hx0
      have hadd : ∀ j, (⟨b, o, none⟩ : Addr).add j = ⟨b, o + j, none⟩ := fun j => by
        unfold Addr.add; split
        · rename_i h; rw [h]; rfl
        · rfl
      refine ⟨b, o, rfl, ?_, fun i hi j v hj => ?_⟩
      · rw [hadd] at h00
        exact World.block_lt_of_cell? w _ h00
      · obtain ⟨hok, hcl⟩ := hf2 i hi
        have hjl : j < s := by have := (List.getElem?_eq_some_iff.1 hj).1; rw [hlen _ hok] at this; exact this
        have := hcl j hjl
        rw [hadd, hj] at this
        rw [Nat.add_assoc]; exact this
end
end Go.Proofs.Ytedkbjimofiphaa
