/- append of one element to an own row; ease.parseCurve. ease.parseCurve. ease.along: what points make of a number. Points while they are placed: an own row; slices.IndexFunc over it. How points get their places: plain laws. ease.placed: the walk. ease.steps' function: what it tells, by places (printed by gen_eav.py). ease.bezier; ease.curve's function: what it tells, by places (printed by gen_ebb.py). The closures and Easing.At: what an easing tells of a number. -/
import Derived.Test.YtlgencbldbpbdaaGreatDoorMgEaZ
import Derived.Laws.AppendOwn
import Derived.BigRegion
import Derived.Test.YtlgencbldbpbdaaGreatDoorEaU
import Derived.Deep.CutBlock
import Derived.Test.YtlgencbldbpbdaaGreatDoorMgEaW
namespace Go.Proofs.YtlgencbldbpbdaaGreatDoor
open Go.RowKit Fl
theorem app_one {w0 : World} {ops : Array Oper} {rest : List Oper} {o : Oper} {a : Act} {Q : Exit → Act → World → Prop} (hgd : o.guard = none) (s x : Operand) (t e : TypeId)
  (ho : o.op = .call { callee := .builtin .append, args := #[s, x], argTypes := #[t, t] }) (z : Value) (size bytes : Nat) (hu : Tryz.prog.underlying t = some (.slice e)) (hinfo : (Tryz.prog.info? e).map (fun i => (i.zero, i.size, i.bytes)) = some (some z, size, bytes)) (hzs : z.cells.size = size) (hs0 : 0 < size)
  (B : Nat) (v : Value) (n : Nat) (xs : List Value) (hs : a.eval s = v) (hown : w0.ownsRow B e size v n xs) (cs : Array Value) (hcs : cs.size = size) (h1 : ∀ u ∈ cs.toList, u.oneCell' = true) (hx : a.eval x = .slice (some ⟨w0.heap.size, 0, none⟩) 1 1) (hn : n ≤ 1000000) (hb : (n + 1) * bytes ≤ 140737488355328) (hB : B ≤ w0.heap.size)
  (h : ∀ v' w', w'.ownsRow B e size v' (n + 1) (xs ++ cs.toList) → (∀ wB, B ≤ wB.heap.size → Below B wB w0 → Below B wB w') → w0.heap.size ≤ w'.heap.size → wpList Tryz.prog ops Q rest (a.put o.dst v') w') : wpList Tryz.prog ops Q (o :: rest) a (w0.alloc (.cells cs e)) := by
 obtain ⟨i0, hi, hz0, hz1, hz2⟩ := info_parts hinfo
 refine wpList_append_own _ hgd s x t ho B e i0 z size bytes hu hi hz0 hz1 hz2 hzs hs0 v n xs hs (hown.alloc _) ⟨w0.heap.size, 0, none⟩ 1 1 cs.toList hx (by rw [Array.length_toList, hcs, Nat.one_mul]) ?_ h1 (by unfold maxLen; omega) hb (by simp; omega) ?_
 ·intro j u hj
  have := World.cell?_alloc_new w0 cs e j
  rw [show (Addr.add ⟨w0.heap.size, 0, none⟩ j) = ⟨w0.heap.size, j, none⟩ by simp [Addr.add]; omega]
  rw [this]
  simpa using hj
 ·intro v' w' own grow _
  refine h v' w' own ?_ ?_
  ·intro wB hb1 hb2
   refine (hb2.alloc hB _).grown grow (by simp; omega) fun k hk => ?_
   rcases hown.2 with ⟨e, _⟩ | ⟨g, _, _, e, hg, _⟩
   ·rw [e] at hk; cases hk
   ·rw [e] at hk; cases hk; exact hg
  ·have := grow.size; simp at this; omega
def fv (x : Nat) : Value := .float .f64 x
theorem own_cells {w : World} {B e : Nat} {v : Value} {n : Nat} {xs : List Value} (h : w.ownsRow B e 1 v n xs) (hn : 0 < n) : ∃ g cap, v = .slice (some ⟨g, 0, none⟩) n cap ∧ B ≤ g ∧ g < w.heap.size ∧ n ≤ cap ∧ ∀ (j : Nat) x, xs[j]? = some x → w.cell? ⟨g, j, none⟩ = some x := by
 rcases h.2 with ⟨_, h2⟩ | ⟨g, cap, cur, rfl, hb, hg, h3, h4, h5, h6⟩
 ·omega
 ·refine ⟨g, cap, rfl, hb, (Array.getElem?_eq_some_iff.1 hg).1, h3, fun j x hj => ?_⟩
  have hlt : j < xs.length := (List.getElem?_eq_some_iff.1 hj).1
  have hl : xs.length = n * 1 := h.1
  have : (cur.toList.take (n * 1))[j]? = some x := by rw [h6, hj]
  rw [List.getElem?_take, if_pos (by omega)] at this
  simp only [World.cell?, hg]
  simpa using this
theorem own_len {w : World} {B e : Nat} {v : Value} {n : Nat} {xs : List Value} (h : w.ownsRow B e 1 v n xs) : (v = .slice none 0 0 ∧ n = 0) ∨ ∃ g cap, v = .slice (some ⟨g, 0, none⟩) n cap := by
 rcases h.2 with ⟨e, h2⟩ | ⟨g, cap, _, rfl, _⟩
 ·exact .inl ⟨e, h2⟩
 ·exact .inr ⟨g, cap, rfl⟩
def inU (p : Int) : Bool := !(fltP p 0 || fltP (iP 1) p)
def curveF (l : List (List Nat)) : Option Ez := match l.mapM numE with
 | some [a, b, c, d] => if inU (pl a) = true ∧ inU (pl c) = true then some (.curve a b c d) else none
 | _ => none
theorem mapM_none {l : List (List Nat)} {k : Nat} {x : List Nat} (h : l[k]? = some x) (hx : numE x = none) : l.mapM numE = none := by
 induction l generalizing k with
 | nil => simp at h
 | cons y l ih =>
   rw [List.mapM_cons]
   cases k with
   | zero =>
     simp at h; subst h
     rw [hx]; rfl
   | succ k =>
     have := ih (k := k) (by simpa using h)
     cases numE y with
     | none => rfl
     | some z => rw [this]; rfl
theorem numE_val {x : List Nat} (h : (numE x).isSome = true) : numE x = some (pW x) := by
 unfold numE at h ⊢
 split at h
 ·rename_i c; rw [if_pos c]
 ·cases h
theorem mapM_all : ∀ {l : List (List Nat)}, (∀ x ∈ l, (numE x).isSome = true) → l.mapM numE = some (l.map pW)
 | [], _ => rfl
 | x :: l, h => by
   rw [List.mapM_cons, numE_val (h x (List.mem_cons_self ..)), mapM_all (fun y hy => h y (List.mem_cons_of_mem _ hy))]
   rfl
end Go.Proofs.YtlgencbldbpbdaaGreatDoor
namespace Go.Proofs.YtlgencbldbpbdaaGreatDoor
open Go.RowKit Fl
theorem own_below1 {w w' : World} {B e size n : Nat} {v : Value} {xs : List Value} (h : w.ownsRow B e size v n xs) (hb : Below w.heap.size w w') : w'.ownsRow B e size v n xs := by
 refine ⟨h.1, ?_⟩
 rcases h.2 with h2 | ⟨g, cap, cur, e1, h3, hg, h4⟩
 ·exact .inl h2
 ·exact .inr ⟨g, cap, cur, e1, h3, (hb.block g (Array.getElem?_eq_some_iff.1 hg).1).trans hg, h4⟩
set_option maxRecDepth 100000 in
set_option maxHeartbeats 4000000 in
theorem k44 (A : Nat) (xs : List ByteArray) (c : Nat) (w : World) (hw : LS w A xs) (he : EW w) (hs : ∀ x ∈ xs, x.size ≤ 2000) (hl : xs.length ≤ 100000) :
  Calls Tryz.prog 44 #[.slice (some ⟨A, 0, none⟩) xs.length c] w fun e w' => ParseR w (curveF (xs.map bl)) e w' := by
 have HW := Lib.hid (And.intro hw (And.intro he (And.intro hs hl)))
 have BD := Lib.hid (fun (w1 : World) => k36 w1)
 have O0 := Lib.hid (World.ownsRow_nil w w.heap.size 31 1)
 obtain ⟨R, hR0⟩ : ∃ R, R = curveF (xs.map bl) := ⟨_, rfl⟩
 rw [← hR0]
 have hR := Lib.hid hR0
 clear hw he hs hl hR0
 go_enter Tryz.func44, Tryz.ntmps44
 go_wp2_with fail
 go_loopw [4, 11] (fun v i wx => ∃ k : Nat, k ≤ xs.length ∧ i = .int .i64 k ∧ Hid (wx.ownsRow w.heap.size 31 1 v k (((xs.take k).map (fun x => pW (bl x))).map fv)) ∧ Hid (∀ x ∈ xs.take k, (numE (bl x)).isSome = true) ∧ Hid (Below w.heap.size w wx)) (fun _ i _ => xs.length - (Lib.intOf i).toNat)
 case atStart => exact ⟨0, by omega, rfl, by rw [List.take_zero]; exact O0, Lib.hid (fun x hx => by rw [List.take_zero] at hx; cases hx), Lib.hid (Below.refl _ _)⟩
 case round =>
  obtain ⟨k, hk, rfl, hO, hA, hB⟩ := hrel
  by_cases hlt : k < xs.length
  ·have hki : (k : Int) < (xs.length : Int) := by omega
   obtain ⟨x, hx⟩ : ∃ x, xs[k]? = some x := ⟨xs[k], List.getElem?_eq_getElem hlt⟩
   have kc := (HW.out.1.below hB.out).2 k x hx
   have HX := Lib.hid hx
   have HLT := Lib.hid hlt
   have C86 := Lib.hid (fun (w1 : World) => k86 x w1 (by have := HW.out.2.2.1 x (List.mem_of_getElem? hx); omega))
   cases hn : (numE (bl x)).isSome
   ·rw [hn] at C86
    have HN := Lib.hid hn
    clear hx hlt hn hk
    go_wp2_with (first
     | (go_at_call 86; refine (C86.out _).mono ?_; rintro e w2 ⟨rfl, hb2⟩; have B2 := Lib.hid (hB.out.trans (hb2.mono hB.out.size)); clear hb2)
     | (go_at_call 36; refine (BD.out _).mono ?_; rintro e w9 ⟨N9, rfl, hb9⟩; have B9 := Lib.hid hb9; clear hb9))
    go_ret2
    have e1 : R = none := by
     rw [hR.out]
     unfold curveF
     rw [mapM_none (l := xs.map bl) (k := k) (x := bl x) (by rw [List.getElem?_map, HX.out]; rfl) (by have := HN.out; cases h : numE (bl x) with | none => rfl | some z => rw [h] at this; cases this)]
    rw [e1]
    exact BadR.mono ⟨N9, rfl, B9.out⟩ B2.out
   ·rw [hn] at C86
    have HN := Lib.hid hn
    have TK : xs.take (k + 1) = xs.take k ++ [x] := by rw [List.take_add_one, hx]; rfl
    have HK := Lib.hid (show k ≤ 100000 by have := HW.out.2.2.2; omega)
    obtain ⟨ls, hls⟩ : ∃ ls, ls = (xs.take k).map (fun x => pW (bl x)) := ⟨_, rfl⟩
    rw [← hls] at hO
    have LS2 : Hid ((xs.take (k + 1)).map (fun x => pW (bl x)) = ls ++ [pW (bl x)]) := Lib.hid (by rw [TK, List.map_append, hls]; rfl)
    have A2 : Hid (∀ y ∈ xs.take (k + 1), (numE (bl y)).isSome = true) := Lib.hid (fun y hy => by
     rw [TK] at hy
     rcases List.mem_append.1 hy with h | h
     ·exact hA.out y h
     ·rw [List.mem_singleton.1 h]; exact HN.out)
    clear hx hlt hn hk TK hls hA
    obtain ⟨q, hq⟩ : ∃ q, q = pW (bl x) := ⟨_, rfl⟩
    rw [← hq] at C86 LS2
    clear hq
    go_wp2_with (first
     | (go_at_call 86; refine (C86.out _).mono ?_; rintro e w2 ⟨rfl, hb2⟩; have B2 := Lib.hid hb2; clear hb2)
     | (at_builtin; refine app_one rfl _ _ 22 31 rfl (.float .f64 0) 1 8 Tryz.underlying22 (by kernel_rfl) rfl (by decide) w.heap.size _ _ _ rfl (own_below1 hO.out B2.out) #[fv q] rfl ?c1 rfl ?c2 ?c3 ?c4 ?_))
    case c1 => first | rfl | (intro u hu; simp [fv] at hu; subst hu; rfl)
    case c2 => have := HK.out; omega
    case c3 => have := HK.out; omega
    case c4 => exact Nat.le_trans hB.out.size B2.out.size
    intro v3 w3 hown hbel hsz
    have O3 : Hid (w3.ownsRow w.heap.size 31 1 v3 (k + 1) (((xs.take (k + 1)).map (fun x => pW (bl x))).map fv)) := Lib.hid (by rw [LS2.out, List.map_append]; exact hown)
    have B3 := Lib.hid (hbel w (Nat.le_refl _) (hB.out.trans (B2.out.mono hB.out.size)))
    clear hown hbel hsz
    have kbi : (k : Int) ≤ 100000 := by have := HK.out; omega
    go_wp2
    go_roundw
    case rel => exact ⟨k + 1, by have := HLT.out; omega, by go_num, O3, A2, B3⟩
    case measure => have := HLT.out; simp [Lib.intOf]; omega
  ·have hki : ¬ (k : Int) < (xs.length : Int) := by omega
   have hkl : k = xs.length := by omega
   have MA : Hid ((xs.map bl).mapM numE = some (xs.map (fun x => pW (bl x)))) := Lib.hid (by
    rw [mapM_all (fun y hy => by
     obtain ⟨x, hx, rfl⟩ := List.mem_map.1 hy
     exact hA.out x (by rw [hkl, List.take_length]; exact hx)), List.map_map]
    rfl)
   rw [hkl, List.take_length] at hO
   have ll : (xs.map (fun x => pW (bl x))).length = xs.length := by rw [List.length_map]
   have hu : ∀ q ∈ xs.map (fun x => pW (bl x)), U q := fun q hq => by
    obtain ⟨x, -, rfl⟩ := List.mem_map.1 hq
    exact (pW_U _).1
   subst hkl
   obtain ⟨ls, hls⟩ : ∃ ls, ls = xs.map (fun x => pW (bl x)) := ⟨_, rfl⟩
   rw [← hls] at hO MA ll hu
   obtain ⟨n, hn⟩ : ∃ n, n = xs.length := ⟨_, rfl⟩
   rw [← hn] at hO ll hki ⊢
   clear hls hA hn hk
   by_cases h4 : n = 4
   ·subst h4
    match ls, ll, hO, MA, hu with
    | [a, b, cc, d], _, hO, MA, hu =>
      obtain ⟨g, cap, rfl, hg, hgs, hcap, hc⟩ := own_cells hO.out (by omega)
      have ca := hc 0 (fv a) rfl
      have cb := hc 1 (fv b) rfl
      have ccc := hc 2 (fv cc) rfl
      have cd := hc 3 (fv d) rfl
      unfold fv at ca cb ccc cd
      have ua := hu a (by simp)
      have ub := hu b (by simp)
      have uc := hu cc (by simp)
      have ud := hu d (by simp)
      have t1 := RV.lt (RV.self ua) zero_RV
      have t2 := RV.gt (RV.self ua) one_RV
      have t3 := RV.lt (RV.self uc) zero_RV
      have t4 := RV.gt (RV.self uc) one_RV
      have HR2 : Hid (R = if inU (pl a) = true ∧ inU (pl cc) = true then some (.curve a b cc d) else none) := Lib.hid (by rw [hR.out]; unfold curveF; rw [MA.out])
      have HU := Lib.hid (And.intro ua (And.intro ub (And.intro uc ud)))
      have HG := Lib.hid (And.intro hg hgs)
      have HBB := Lib.hid hB.out
      have CU := Lib.hid (fun (w1 : World) (h : PowTab w1) => k39 a b cc d w1 ua ub uc ud h)
      have EWX := Lib.hid (HW.out.2.1.below hB.out)
      clear hc hO MA hu ua ub uc ud hg hgs hB hki
      cases b1 : fltP (pl a) 0 <;> cases b2 : fltP (iP 1) (pl a) <;> cases b3 : fltP (pl cc) 0 <;> cases b4 : fltP (iP 1) (pl cc)
      all_goals
       rw [b1] at t1
       rw [b2] at t2
       rw [b3] at t3
       rw [b4] at t4
       have EB := Lib.hid (And.intro b1 (And.intro b2 (And.intro b3 b4)))
       clear b1 b2 b3 b4
      case false.false.false.false =>
       go_upto_region 12 with fail
       have EC : Hid (R = some (.curve a b cc d)) := Lib.hid (by
        obtain ⟨b1, b2, b3, b4⟩ := EB.out
        rw [HR2.out]
        unfold inU
        simp [b1, b2, b3, b4])
       refine wp_region_rel 12 (fun w' => Below wr.heap.size wr w') (fun _ _ _ => True) (by kernel_rfl) (by kernel_rfl) ((Below.refl _ _).drew) ?_
       simp only [List.take_succ_cons, List.take_zero, List.drop_succ_cons, List.drop_zero]
       refine rel_move (v := .slice (some ⟨g, 0, none⟩) 4 cap) rfl rfl ?_
       simp only [Act.put, List.setIfInBounds_toArray, List.set_cons_succ, List.set_cons_zero]
       refine rel_val (v := .pointer (some ⟨g, 0, none⟩)) rfl (fun w' hw => by unfold execOp; go_simp) ?_
       simp only [Act.put, List.setIfInBounds_toArray, List.set_cons_succ, List.set_cons_zero]
       refine rel_val (v := .float .f64 a) rfl (fun w' hw => by
        have cx := (hw.cell (p := ⟨g, 0, none⟩) HG.out.2).trans ca
        unfold execOp
        go_simp) ?_
       simp only [Act.put, List.setIfInBounds_toArray, List.set_cons_succ, List.set_cons_zero]
       refine rel_move (v := .slice (some ⟨g, 0, none⟩) 4 cap) rfl rfl ?_
       simp only [Act.put, List.setIfInBounds_toArray, List.set_cons_succ, List.set_cons_zero]
       refine rel_val (v := .pointer (some ⟨g, 1, none⟩)) rfl (fun w' hw => by unfold execOp; go_simp) ?_
       simp only [Act.put, List.setIfInBounds_toArray, List.set_cons_succ, List.set_cons_zero]
       refine rel_val (v := .float .f64 b) rfl (fun w' hw => by
        have cx := (hw.cell (p := ⟨g, 1, none⟩) HG.out.2).trans cb
        unfold execOp
        go_simp) ?_
       simp only [Act.put, List.setIfInBounds_toArray, List.set_cons_succ, List.set_cons_zero]
       refine rel_move (v := .slice (some ⟨g, 0, none⟩) 4 cap) rfl rfl ?_
       simp only [Act.put, List.setIfInBounds_toArray, List.set_cons_succ, List.set_cons_zero]
       refine rel_val (v := .pointer (some ⟨g, 2, none⟩)) rfl (fun w' hw => by unfold execOp; go_simp) ?_
       simp only [Act.put, List.setIfInBounds_toArray, List.set_cons_succ, List.set_cons_zero]
       refine rel_val (v := .float .f64 cc) rfl (fun w' hw => by
        have cx := (hw.cell (p := ⟨g, 2, none⟩) HG.out.2).trans ccc
        unfold execOp
        go_simp) ?_
       simp only [Act.put, List.setIfInBounds_toArray, List.set_cons_succ, List.set_cons_zero]
       refine rel_move (v := .slice (some ⟨g, 0, none⟩) 4 cap) rfl rfl ?_
       simp only [Act.put, List.setIfInBounds_toArray, List.set_cons_succ, List.set_cons_zero]
       refine rel_val (v := .pointer (some ⟨g, 3, none⟩)) rfl (fun w' hw => by unfold execOp; go_simp) ?_
       simp only [Act.put, List.setIfInBounds_toArray, List.set_cons_succ, List.set_cons_zero]
       refine rel_val (v := .float .f64 d) rfl (fun w' hw => by
        have cx := (hw.cell (p := ⟨g, 3, none⟩) HG.out.2).trans cd
        unfold execOp
        go_simp) ?_
       simp only [Act.put, List.setIfInBounds_toArray, List.set_cons_succ, List.set_cons_zero]
       refine rel_nil ?_
       intro w' hw
       have HWW := Lib.hid hw
       have HP := Lib.hid (EWX.out.below hw).1
       clear hw
       go_wp2_with (go_at_call 39; refine (CU.out _ HP.out).mono ?_; rintro e w4 ⟨b4, rfl, hb4⟩; have B4 := Lib.hid hb4; clear hb4)
       go_ret2
       rw [EC.out]
       exact OkR.mono ⟨b4, rfl, B4.out⟩ (HBB.out.trans (HWW.out.mono HBB.out.size))
      all_goals
       go_wp2_with (go_at_call 36; refine (BD.out _).mono ?_; rintro e w9 ⟨N9, rfl, hb9⟩; have B9 := Lib.hid hb9; clear hb9)
       go_ret2
       have e1 : R = none := by
        obtain ⟨b1, b2, b3, b4⟩ := EB.out
        rw [HR2.out]
        unfold inU
        simp [b1, b2, b3, b4]
       rw [e1]
       exact BadR.mono ⟨N9, rfl, B9.out⟩ HBB.out
   ·have n4 : ¬ (n : Int) = 4 := by omega
    have e1 : R = none := by
     rw [hR.out]
     unfold curveF
     rw [MA.out]
     match ls, ll with
     | [], _ => rfl
     | [_], _ => rfl
     | [_, _], _ => rfl
     | [_, _, _], _ => rfl
     | [_, _, _, _], h => exact absurd h.symm h4
     | _ :: _ :: _ :: _ :: _ :: _, _ => rfl
    have E1 := Lib.hid e1
    have HBB := Lib.hid hB.out
    rcases own_len hO.out with ⟨rfl, rfl⟩ | ⟨g, cap, rfl⟩
    all_goals
     clear hO MA hu hB hki ll h4 e1
     go_wp2_with (go_at_call 36; refine (BD.out _).mono ?_; rintro e w9 ⟨N9, rfl, hb9⟩; have B9 := Lib.hid hb9; clear hb9)
     go_ret2
     rw [E1.out]
     exact BadR.mono ⟨N9, rfl, B9.out⟩ HBB.out
end Go.Proofs.YtlgencbldbpbdaaGreatDoor
namespace Go.Proofs.YtlgencbldbpbdaaGreatDoor
open Go.RowKit Fl
def PR (w : World) (A : Nat) (rs : List (Int × Int)) : Prop := A < w.heap.size ∧ ∀ k r, rs[k]? = some r → ∃ o a, RV o r.1 ∧ RV a r.2 ∧ w.cell? ⟨A, k * 3, none⟩ = some (.float .f64 o) ∧ w.cell? ⟨A, k * 3 + 1, none⟩ = some (.float .f64 a) ∧ w.cell? ⟨A, k * 3 + 2, none⟩ = some (.bool true)
theorem PR.below {w w' : World} {A : Nat} {rs : List (Int × Int)} (h : PR w A rs) (hb : Below w.heap.size w w') : PR w' A rs := ⟨Nat.lt_of_lt_of_le h.1 hb.size, fun k r hk => by
 obtain ⟨o, a, h1, h2, c1, c2, c3⟩ := h.2 k r hk
 exact ⟨o, a, h1, h2, (hb.cell (p := ⟨A, _, none⟩) h.1).trans c1, (hb.cell (p := ⟨A, _, none⟩) h.1).trans c2, (hb.cell (p := ⟨A, _, none⟩) h.1).trans c3⟩⟩
theorem last_snoc (x : Int) : ∀ (l : List (Int × Int)) (r : Int × Int) (i k : Nat), lastLe x (l ++ [r]) i k = if fleP r.2 x = true then i + l.length else lastLe x l i k
 | [], r, i, k => rfl
 | y :: l, r, i, k => by
   show lastLe x (l ++ [r]) (i + 1) _ = if _ then i + (l.length + 1) else lastLe x l (i + 1) _
   rw [last_snoc x l r, show i + 1 + l.length = i + (l.length + 1) by omega]
set_option maxRecDepth 100000 in
set_option maxHeartbeats 2000000 in
theorem k95 {x : Nat} {X : Int} (hx : RV x X) (A : Nat) (rs : List (Int × Int)) (c : Nat) (w : World) (hp : PR w A rs) (h2 : 2 ≤ rs.length) (hn : rs.length ≤ 1000) :
  Calls Tryz.prog 95 #[.slice (some ⟨A, 0, none⟩) rs.length c, .float .f64 x] w fun e w' => RetR (alongP rs X) e ∧ Below w.heap.size w w' := by
 have HX := Lib.hid (And.intro hx (And.intro hp (And.intro h2 hn)))
 obtain ⟨n, hn0⟩ : ∃ n, n = rs.length := ⟨_, rfl⟩
 rw [← hn0]
 have HN := Lib.hid hn0
 have nb : (n : Int) ≤ 1000 := by omega
 obtain ⟨R, hR0⟩ : ∃ R, R = alongP rs X := ⟨_, rfl⟩
 rw [← hR0]
 have hR := Lib.hid hR0
 clear hx hp h2 hn hn0 hR0
 go_enter Tryz.func95, Tryz.ntmps95
 go_wp2_with fail
 go_loopw [5, 11] (fun u i wx => ∃ k j : Nat, k ≤ n ∧ i = .int .i64 k ∧ u = .int .i64 j ∧ Hid (j = lastLe X (rs.take k) 0 0) ∧ Hid (wx = w)) (fun _ i _ => n - (Lib.intOf i).toNat)
 case atStart => exact ⟨0, 0, by omega, rfl, rfl, Lib.hid (by rw [List.take_zero]; rfl), Lib.hid rfl⟩
 case round =>
  obtain ⟨k, j, hk, rfl, rfl, hj, hw⟩ := hrel
  obtain rfl := hw.out
  by_cases hlt : k < n
  ·have hki : (k : Int) < (n : Int) := by omega
   obtain ⟨r, hr⟩ : ∃ r, rs[k]? = some r := ⟨rs[k]'(by have := HN.out; omega), List.getElem?_eq_getElem _⟩
   obtain ⟨o, a, ho, ha, c1, c2, c3⟩ := HX.out.2.1.2 k r hr
   have TK : rs.take (k + 1) = rs.take k ++ [r] := by rw [List.take_add_one, hr]; rfl
   have q1 := RV.le ha HX.out.1
   have HLT := Lib.hid hlt
   clear hlt hk hr ho
   cases bq : fleP r.2 X
   ·rw [bq] at q1
    have J2 : Hid (j = lastLe X (rs.take (k + 1)) 0 0) := Lib.hid (by rw [TK, last_snoc, if_neg (by rw [bq]; decide)]; exact hj.out)
    clear bq TK hj
    go_wp2
    go_roundw
    case rel => exact ⟨k + 1, j, by have := HLT.out; omega, by go_num, rfl, J2, Lib.hid (by first | rfl | trivial)⟩
    case measure => have := HLT.out; simp [Lib.intOf]; omega
   ·rw [bq] at q1
    have J2 : Hid (k = lastLe X (rs.take (k + 1)) 0 0) := Lib.hid (by rw [TK, last_snoc, if_pos bq, List.length_take]; have := HN.out; have := HLT.out; omega)
    clear bq TK hj
    go_wp2
    go_roundw
    case rel => exact ⟨k + 1, k, by have := HLT.out; omega, by go_num, rfl, J2, Lib.hid (by first | rfl | trivial)⟩
    case measure => have := HLT.out; simp [Lib.intOf]; omega
  ·have hki : ¬ (k : Int) < (n : Int) := by omega
   have e : rs.take k = rs := by rw [List.take_of_length_le (by have := HN.out; omega)]
   have hj2 := hj.out
   rw [e] at hj2
   obtain ⟨m, hm⟩ : ∃ m, m = min j (n - 2) := ⟨_, rfl⟩
   have hmi : min (j : Int) ((n : Int) - 2) = (m : Int) := by rw [hm]; have := HX.out.2.2.1; have := HN.out; omega
   obtain ⟨ra, hra⟩ : ∃ r, rs[m]? = some r := ⟨rs[m]'(by have := HX.out.2.2.1; have := HN.out; omega), List.getElem?_eq_getElem _⟩
   obtain ⟨rb, hrb⟩ : ∃ r, rs[m + 1]? = some r := ⟨rs[m + 1]'(by have := HX.out.2.2.1; have := HN.out; omega), List.getElem?_eq_getElem _⟩
   have ER : Hid (R = if feqP ra.2 rb.2 = true then rb.1 else opP .add ra.1 (opP .mul (opP .quo (opP .sub X ra.2) (opP .sub rb.2 ra.2)) (opP .sub rb.1 ra.1))) := Lib.hid (by
    rw [hR.out]
    unfold alongP
    rw [← hj2, ← HN.out, ← hm]
    simp only [List.getD, hra, hrb, Option.getD_some])
   obtain ⟨o1, a1, ho1, ha1, c1, c2, c3⟩ := HX.out.2.1.2 m ra hra
   obtain ⟨o2, a2, ho2, ha2, d1, d2, d3⟩ := HX.out.2.1.2 (m + 1) rb hrb
   clear hlt hk hj hj2 e hm hra hrb
   have mb : (m : Int) + 1 < (n : Int) := by have := HX.out.2.2.1; have := HN.out; omega
   have mb2 : (m : Int) < (n : Int) := by omega
   have mb3 : (m : Int) ≤ 1000 := by omega
   have hA : A < wr.heap.size := HX.out.2.1.1
   have hsf := fun (a : Addr) (x : Nat) (m : Mode) (W : World) => (show (store a (.float .f64 x) m).run Tryz.prog W = stored Tryz.prog W a (.float .f64 x) m from run_store Tryz.prog W a _ m rfl)
   have q := RV.eq_ ha1 ha2
   have fA := fun x y w => run_fop (P := Tryz.prog) .add rfl 31 x y w
   have fS := fun x y w => run_fop (P := Tryz.prog) .sub rfl 31 x y w
   have fM := fun x y w => run_fop (P := Tryz.prog) .mul rfl 31 x y w
   have fQ := fun x y w => run_fop (P := Tryz.prog) .quo rfl 31 x y w
   have HV := Lib.hid (And.intro ho1 (And.intro ha1 (And.intro ho2 ha2)))
   have HB : Hid (∀ c1 c2 : Array Value, ∀ n : Nat, Below wr.heap.size wr (((wr.alloc (.cells c1 148)).alloc (.cells c2 148)).drewN n)) := Lib.hid (fun c1 c2 n => by
    have b1 := (Below.refl wr.heap.size wr).alloc (Nat.le_refl _) (.cells c1 148)
    have b2 := b1.alloc b1.size (.cells c2 148)
    exact ⟨b2.os, b2.tape, b2.output, b2.size, b2.block⟩)
   clear ho1 ha1 ho2 ha2
   cases bq : feqP ra.2 rb.2
   ·rw [bq] at q
    have E := Lib.hid (ER.out.trans (if_neg (by rw [bq]; decide)))
    clear ER bq
    go_wp2_with fail
    go_region
    all_goals
     go_wp2
     go_ret
     refine ⟨⟨_, rfl, ?_⟩, HB.out _ _ _⟩
     obtain ⟨ho1, ha1, ho2, ha2⟩ := HV.out
     rw [E.out]
     exact RV.fop .add ho1 (RV.fop .mul (RV.fop .quo (RV.fop .sub HX.out.1 ha1 _) (RV.fop .sub ha2 ha1 _) _) (RV.fop .sub ho2 ho1 _) _) _
   ·rw [bq] at q
    have E := Lib.hid (ER.out.trans (if_pos bq))
    clear ER bq
    go_wp2_with fail
    go_region
    all_goals
     go_wp2
     go_ret
     refine ⟨⟨_, rfl, ?_⟩, HB.out _ _ 1⟩
     rw [E.out]
     exact HV.out.2.2.1
end Go.Proofs.YtlgencbldbpbdaaGreatDoor
namespace Go.Proofs.YtlgencbldbpbdaaGreatDoor
open Go.RowKit Fl
theorem owned_put3 {w : World} {base n g c j size : Nat} {e : TypeId} {xs : List Value} (h : w.ownsRow base e size (.slice (some ⟨g, 0, none⟩) n c) n xs) (v : Value) :
  (w.setCell ⟨g, j, none⟩ v).ownsRow base e size (.slice (some ⟨g, 0, none⟩) n c) n (xs.set j v) := by
 refine ⟨by rw [List.length_set]; exact h.1, ?_⟩
 rcases h.2 with ⟨h1, -⟩ | ⟨g', cap, cur, h1, h2, h3, h4, h5, h6, h7⟩
 ·cases h1
 ·injection h1 with a1 a2 a3
  injection a1 with a1
  injection a1 with a1
  subst a1 a3
  refine Or.inr ⟨g, c, cur.setIfInBounds j v, rfl, h2, ?_, h4, h5, by rw [Array.size_setIfInBounds]; exact h6, ?_⟩
  ·unfold World.setCell
   simp [Array.getElem?_modify, h3]
  ·rw [Array.toList_setIfInBounds, List.take_set, h7]
def OE (w : World) (B g n c : Nat) (es : List (Int × Option Int)) : Prop := es.length = n ∧ ∃ xs, w.ownsRow B 148 3 (.slice (some ⟨g, 0, none⟩) n c) n xs ∧
 ∀ k e, es[k]? = some e → ∃ o a, RV o e.1 ∧ (∀ p, e.2 = some p → RV a p) ∧ xs[k * 3]? = some (.float .f64 o) ∧ xs[k * 3 + 1]? = some (.float .f64 a) ∧ xs[k * 3 + 2]? = some (.bool e.2.isSome)
theorem own3_block {w : World} {B g n c : Nat} {e : TypeId} {xs : List Value} (h : w.ownsRow B e 3 (.slice (some ⟨g, 0, none⟩) n c) n xs) : B ≤ g ∧ g < w.heap.size := by
 rcases h.2 with ⟨h1, -⟩ | ⟨g', cap, cur, h1, h2, h3, -⟩
 ·cases h1
 ·injection h1 with a1 a2 a3
  injection a1 with a1
  injection a1 with a1
  subst a1
  exact ⟨h2, (Array.getElem?_eq_some_iff.1 h3).1⟩
theorem own3_cell {w : World} {B g n c j : Nat} {e : TypeId} {xs : List Value} {v : Value} (h : w.ownsRow B e 3 (.slice (some ⟨g, 0, none⟩) n c) n xs) (hj : xs[j]? = some v) : w.cell? ⟨g, j, none⟩ = some v ∧ w.frozen? ⟨g, j, none⟩ = false := by
 have hl := (List.getElem?_eq_some_iff.1 hj).1
 refine ⟨?_, h.frozenAt j⟩
 rcases h.2 with ⟨h1, -⟩ | ⟨g', cap, cur, h1, h2, h3, h4, h5, h6, h7⟩
 ·cases h1
 ·injection h1 with a1 a2 a3
  injection a1 with a1
  injection a1 with a1
  subst a1
  have h8 : xs.length = n * 3 := h.1
  have : (cur.toList.take (n * 3))[j]? = some v := by rw [h7, hj]
  rw [List.getElem?_take, if_pos (by omega)] at this
  simp only [World.cell?, h3]
  simpa using this
theorem OE.cells {w : World} {B g n c k : Nat} {es : List (Int × Option Int)} {e : Int × Option Int} (h : OE w B g n c es) (hk : es[k]? = some e) : ∃ o a, RV o e.1 ∧ (∀ p, e.2 = some p → RV a p) ∧
  (w.cell? ⟨g, k * 3, none⟩ = some (.float .f64 o) ∧ w.cell? ⟨g, k * 3 + 1, none⟩ = some (.float .f64 a) ∧ w.cell? ⟨g, k * 3 + 2, none⟩ = some (.bool e.2.isSome)) ∧ w.frozen? ⟨g, k * 3 + 1, none⟩ = false ∧ w.frozen? ⟨g, k * 3 + 2, none⟩ = false := by
 obtain ⟨hl, xs, ho, hx⟩ := h
 obtain ⟨o, a, h1, h2, x1, x2, x3⟩ := hx k e hk
 exact ⟨o, a, h1, h2, ⟨(own3_cell ho x1).1, (own3_cell ho x2).1, (own3_cell ho x3).1⟩, (own3_cell ho x2).2, (own3_cell ho x3).2⟩
theorem OE.block {w : World} {B g n c : Nat} {es : List (Int × Option Int)} (h : OE w B g n c es) : B ≤ g ∧ g < w.heap.size := own3_block h.2.choose_spec.1
theorem OE.below {w w' : World} {B g n c : Nat} {es : List (Int × Option Int)} (h : OE w B g n c es) (hb : Below w.heap.size w w') : OE w' B g n c es := by
 obtain ⟨hl, xs, ho, hx⟩ := h
 exact ⟨hl, xs, own_below1 ho hb, hx⟩
theorem OE.drewN {w : World} {B g n c : Nat} {es : List (Int × Option Int)} (h : OE w B g n c es) (k : Nat) : OE (w.drewN k) B g n c es := h
theorem OE.both {w : World} {B g n c k : Nat} {es : List (Int × Option Int)} {e : Int × Option Int} (h : OE w B g n c es) (hk : es[k]? = some e) {a : Nat} {p : Int} (ha : RV a p) :
  OE ((w.setCell ⟨g, k * 3 + 1, none⟩ (.float .f64 a)).setCell ⟨g, k * 3 + 2, none⟩ (.bool true)) B g n c (es.set k (e.1, some p)) := by
 obtain ⟨hl, xs, ho, hx⟩ := h
 have hlen : xs.length = n * 3 := ho.1
 have hkn : k < n := by rw [← hl]; exact (List.getElem?_eq_some_iff.1 hk).1
 refine ⟨by rw [List.length_set]; exact hl, _, owned_put3 (owned_put3 ho _) _, fun i f hf => ?_⟩
 by_cases hik : i = k
 ·subst hik
  rw [List.getElem?_set_self (by omega)] at hf
  cases hf
  obtain ⟨o, _, h1, -, x1, -, -⟩ := hx i e hk
  refine ⟨o, a, h1, fun q hq => by cases hq; exact ha, ?_, ?_, ?_⟩
  ·rw [List.getElem?_set_ne (by omega), List.getElem?_set_ne (by omega)]; exact x1
  ·rw [List.getElem?_set_ne (by omega), List.getElem?_set_self (by omega)]
  ·rw [List.getElem?_set_self (by rw [List.length_set]; omega)]; rfl
 ·rw [List.getElem?_set_ne (by omega)] at hf
  obtain ⟨o, b, h1, h2, x1, x2, x3⟩ := hx i f hf
  refine ⟨o, b, h1, h2, ?_, ?_, ?_⟩
  ·rw [List.getElem?_set_ne (by omega), List.getElem?_set_ne (by omega)]; exact x1
  ·rw [List.getElem?_set_ne (by omega), List.getElem?_set_ne (by omega)]; exact x2
  ·rw [List.getElem?_set_ne (by omega), List.getElem?_set_ne (by omega)]; exact x3
theorem OE.at1 {w : World} {B g n c k : Nat} {es : List (Int × Option Int)} {o0 p0 : Int} (h : OE w B g n c es) (hk : es[k]? = some (o0, some p0)) {a : Nat} {p : Int} (ha : RV a p) :
  OE (w.setCell ⟨g, k * 3 + 1, none⟩ (.float .f64 a)) B g n c (es.set k (o0, some p)) := by
 obtain ⟨hl, xs, ho, hx⟩ := h
 have hlen : xs.length = n * 3 := ho.1
 have hkn : k < n := by rw [← hl]; exact (List.getElem?_eq_some_iff.1 hk).1
 refine ⟨by rw [List.length_set]; exact hl, _, owned_put3 ho _, fun i f hf => ?_⟩
 by_cases hik : i = k
 ·subst hik
  rw [List.getElem?_set_self (by omega)] at hf
  cases hf
  obtain ⟨o, _, h1, -, x1, -, x3⟩ := hx i _ hk
  refine ⟨o, a, h1, fun q hq => by cases hq; exact ha, ?_, ?_, ?_⟩
  ·rw [List.getElem?_set_ne (by omega)]; exact x1
  ·rw [List.getElem?_set_self (by omega)]
  ·rw [List.getElem?_set_ne (by omega)]; exact x3
 ·rw [List.getElem?_set_ne (by omega)] at hf
  obtain ⟨o, b, h1, h2, x1, x2, x3⟩ := hx i f hf
  refine ⟨o, b, h1, h2, ?_, ?_, ?_⟩
  ·rw [List.getElem?_set_ne (by omega)]; exact x1
  ·rw [List.getElem?_set_ne (by omega)]; exact x2
  ·rw [List.getElem?_set_ne (by omega)]; exact x3
theorem gap_none : ∀ (l : List (Int × Option Int)) (k : Nat), k < gapN l → ∃ o, l[k]? = some (o, none)
 | [], k, h => by cases h
 | (o, none) :: l, 0, _ => ⟨o, rfl⟩
 | (o, none) :: l, k + 1, h => by
   obtain ⟨o', h'⟩ := gap_none l k (by have : gapN ((o, none) :: l) = gapN l + 1 := rfl
                                       omega)
   exact ⟨o', h'⟩
 | (o, some a) :: l, k, h => by cases h
theorem gap_some : ∀ (l : List (Int × Option Int)), gapN l < l.length → ∃ o a, l[gapN l]? = some (o, some a)
 | [], h => by cases h
 | (o, none) :: l, h => by
   have e : gapN ((o, none) :: l) = gapN l + 1 := rfl
   obtain ⟨o', a, h'⟩ := gap_some l (by rw [e, List.length_cons] at h; omega)
   exact ⟨o', a, by rw [e]; exact h'⟩
 | (o, some a) :: l, _ => ⟨o, a, rfl⟩
set_option maxRecDepth 100000 in
theorem k147 (o a : Nat) (b : Bool) (w : World) : Calls Tryz.prog 147 #[.agg #[.float .f64 o, .float .f64 a, .bool b]] w fun e w' => e = .returned (.bool b) ∧ Below w.heap.size w w' := by
 go_enter Tryz.func147, Tryz.ntmps147
 go_wp2
 go_ret
 exact ⟨rfl, (Below.refl _ _).alloc (Nat.le_refl _) _⟩
set_option maxRecDepth 100000 in
set_option maxHeartbeats 1000000 in
theorem k146 (B g n c i d : Nat) (es : List (Int × Option Int)) (w : World) (h : OE w B g n c es) (hi : i < n) (hn : n ≤ 1000) (hg : i + gapN (es.drop i) < n) :
  Calls Tryz.prog 146 #[.slice (some ⟨g, i * 3, none⟩) (n - i) d, .func (.func 147) #[] #[]] w fun e w' => e = .returned (.int .i64 (gapN (es.drop i) : Nat)) ∧ Below w.heap.size w w' := by
 have H := Lib.hid (And.intro h (And.intro hi (And.intro hn hg)))
 obtain ⟨m, hm⟩ : ∃ m, m = n - i := ⟨_, rfl⟩
 obtain ⟨G, hG⟩ : ∃ G, G = gapN (es.drop i) := ⟨_, rfl⟩
 rw [← hm, ← hG]
 have HM := Lib.hid (And.intro hm hG)
 have mb : (m : Int) ≤ 1000 := by omega
 clear h hi hn hg hm hG
 go_enter Tryz.func146, Tryz.ntmps146
 go_wp2_with fail
 go_loopw [8] (fun v wx => ∃ k : Nat, k ≤ G ∧ v = .int .i64 k ∧ Hid (Below w.heap.size w wx)) (fun v _ => m - (Lib.intOf v).toNat)
 case atStart => exact ⟨0, Nat.zero_le _, rfl, Lib.hid (Below.refl _ _)⟩
 case round =>
  obtain ⟨k, hk, rfl, hB⟩ := hrel
  obtain ⟨hm, hG⟩ := HM.out
  have hlt : k < m := by have := H.out.2.2.2; omega
  have hki : (k : Int) < (m : Int) := by omega
  have hb3 : (k : Int) ≤ 1000 := by omega
  have ib : (i : Int) ≤ 1000 := by have := H.out.2.1; have := H.out.2.2.1; omega
  have hE := H.out.1.below hB.out
  have ha : i * 3 + k * 3 = (i + k) * 3 := by omega
  by_cases hkG : k < G
  ·obtain ⟨o0, ho⟩ := gap_none (es.drop i) k (by omega)
   rw [List.getElem?_drop] at ho
   obtain ⟨o, a, -, -, ⟨c1, c2, c3⟩, -, -⟩ := hE.cells ho
   rw [← ha] at c1 c2 c3
   have c3' : wr.cell? ⟨g, i * 3 + k * 3 + 2, none⟩ = some (.bool false) := c3
   have HK := Lib.hid hkG
   clear hE ho ha hm hG hkG hlt hk c3
   go_wp2_with (go_at_call 147; refine (k147 _ _ _ _).mono ?_; rintro e w2 ⟨rfl, hb2⟩; have B2 := Lib.hid (hB.out.trans (hb2.mono hB.out.size)); clear hb2)
   go_roundw
   case rel => exact ⟨k + 1, by have := HK.out; omega, by go_num, B2⟩
   case measure => have := HK.out; have := HM.out; have := H.out.2.2.2; simp [Lib.intOf]; omega
  ·obtain ⟨o0, a0, ho⟩ := gap_some (es.drop i) (by rw [List.length_drop, H.out.1.1, ← hG]; have := H.out.2.2.2; omega)
   rw [← hG, List.getElem?_drop] at ho
   have ek : k = G := by omega
   subst ek
   obtain ⟨o, a, -, -, ⟨c1, c2, c3⟩, -, -⟩ := hE.cells ho
   rw [← ha] at c1 c2 c3
   have c3' : wr.cell? ⟨g, i * 3 + k * 3 + 2, none⟩ = some (.bool true) := c3
   clear hE ho ha hm hG hkG hlt hk c3
   go_wp2_with (go_at_call 147; refine (k147 _ _ _ _).mono ?_; rintro e w2 ⟨rfl, hb2⟩; have B2 := Lib.hid (hB.out.trans (hb2.mono hB.out.size)); clear hb2)
   go_ret
   exact ⟨rfl, B2.out⟩
end Go.Proofs.YtlgencbldbpbdaaGreatDoor
namespace Go.Proofs.YtlgencbldbpbdaaGreatDoor
open Go.RowKit Fl
abbrev En := Int × Option Int
theorem head_set {es : List En} {o : Int} {a : Option Int} (h : es[0]? = some (o, a)) : headP es = es.set 0 (o, some (a.getD 0)) := by
 cases es with
 | nil => cases h
 | cons x r => simp at h; subst h; rfl
theorem last_set : ∀ {es : List En} {o : Int} {a : Option Int}, es[es.length - 1]? = some (o, a) → 0 < es.length → lastP es = es.set (es.length - 1) (o, some (a.getD (iP 1)))
 | [], _, _, _, h => by cases h
 | [x], o, a, h, _ => by simp at h; subst h; rfl
 | x :: y :: r, o, a, h, _ => by
   have := last_set (es := y :: r) (o := o) (a := a) (by simpa using h) (by simp)
   show x :: lastP (y :: r) = _
   rw [this]
   simp
theorem head_len (es : List En) : (headP es).length = es.length := by cases es <;> rfl
theorem last_len : ∀ es : List En, (lastP es).length = es.length
 | [] => rfl
 | [x] => rfl
 | x :: y :: r => by show (lastP (y :: r)).length + 1 = _; rw [last_len]; rfl
def mostA (m : Int) : List En → Int
 | [] => m
 | (_, none) :: r => mostA m r
 | (_, some a) :: r => mostA (if fltP a m = true then m else a) r
theorem rise_snoc : ∀ (l : List En) (m : Int) (x : En), riseP m (l ++ [x]) = riseP m l ++ riseP (mostA m l) [x]
 | [], _, _ => rfl
 | (o, none) :: l, m, x => by show (o, none) :: riseP m (l ++ [x]) = _; rw [rise_snoc l]; rfl
 | (o, some a) :: l, m, x => by show (o, some _) :: riseP _ (l ++ [x]) = _; rw [rise_snoc l]; rfl
theorem most_snoc : ∀ (l : List En) (m : Int) (x : En), mostA m (l ++ [x]) = mostA (mostA m l) [x]
 | [], _, _ => rfl
 | (o, none) :: l, m, x => by show mostA m (l ++ [x]) = _; rw [most_snoc l]; rfl
 | (o, some a) :: l, m, x => by show mostA _ (l ++ [x]) = _; rw [most_snoc l]; rfl
theorem rise_len : ∀ (l : List En) (m : Int), (riseP m l).length = l.length
 | [], _ => rfl
 | (o, none) :: l, m => by show (riseP m l).length + 1 = _; rw [rise_len]; rfl
 | (o, some a) :: l, m => by show (riseP _ l).length + 1 = _; rw [rise_len]; rfl
theorem rise_none {l : List En} {m : Int} {k : Nat} {o : Int} (h : l[k]? = some (o, none)) : riseP m (l.take (k + 1)) ++ l.drop (k + 1) = riseP m (l.take k) ++ l.drop k ∧ mostA m (l.take (k + 1)) = mostA m (l.take k) := by
 have hk := (List.getElem?_eq_some_iff.1 h).1
 rw [List.take_add_one, h]
 show riseP m (l.take k ++ [(o, none)]) ++ _ = _ ∧ mostA m (l.take k ++ [(o, none)]) = _
 rw [rise_snoc, most_snoc]
 refine ⟨?_, rfl⟩
 rw [List.append_assoc, List.drop_eq_getElem_cons hk, (List.getElem?_eq_some_iff.1 h).2]
 rfl
theorem rise_some {l : List En} {m : Int} {k : Nat} {o a : Int} (h : l[k]? = some (o, some a)) :
  riseP m (l.take (k + 1)) ++ l.drop (k + 1) = (riseP m (l.take k) ++ l.drop k).set k (o, some (if fltP a (mostA m (l.take k)) = true then mostA m (l.take k) else a)) ∧ mostA m (l.take (k + 1)) = if fltP a (mostA m (l.take k)) = true then mostA m (l.take k) else a := by
 have hk := (List.getElem?_eq_some_iff.1 h).1
 have hl : (riseP m (l.take k)).length = k := by rw [rise_len, List.length_take]; omega
 rw [List.take_add_one, h]
 show riseP m (l.take k ++ [(o, some a)]) ++ _ = _ ∧ mostA m (l.take k ++ [(o, some a)]) = _
 rw [rise_snoc, most_snoc]
 refine ⟨?_, rfl⟩
 rw [List.set_append_right _ _ (by omega), hl, Nat.sub_self, List.append_assoc, List.drop_eq_getElem_cons hk]
 rfl
theorem rise_get {l : List En} {m : Int} {k : Nat} {e : En} (h : l[k]? = some e) : (riseP m (l.take k) ++ l.drop k)[k]? = some e := by
 have hk := (List.getElem?_eq_some_iff.1 h).1
 have hl : (riseP m (l.take k)).length = k := by rw [rise_len, List.length_take]; omega
 rw [List.getElem?_append_right (by omega), hl, Nat.sub_self, List.getElem?_drop, Nat.add_zero, h]
theorem rise_said : ∀ (l : List En) (m : Int) (k : Nat), ((riseP m l)[k]?).map (fun e => e.2.isSome) = (l[k]?).map (fun e => e.2.isSome)
 | [], _, _ => rfl
 | (o, none) :: l, m, 0 => rfl
 | (o, none) :: l, m, k + 1 => rise_said l m k
 | (o, some a) :: l, m, 0 => rfl
 | (o, some a) :: l, m, k + 1 => rise_said l _ k
def gapV (fr too : Int) (j g : Nat) : Int := opP .add fr (opP .mul (opP .sub too fr) (opP .quo (iP (j + 1 : Nat)) (opP .add (iP (g : Nat)) (iP 1))))
theorem fill_get : ∀ (l : List En) (fr : Int) (k j : Nat), j < gapN l → ∃ o, l[j]? = some (o, none) ∧ (fillP fr k l)[j]? = some (o, gapV fr (nextA l) (k + j) (k + gapN l))
 | [], _, _, _, h => by cases h
 | (o, some a) :: l, _, _, _, h => by cases h
 | (o, none) :: l, fr, k, 0, h => by
   refine ⟨o, rfl, ?_⟩
   show some (o, opP .add fr (opP .mul (opP .sub (nextA l) fr) (opP .quo (iP (k + 1 : Nat)) (opP .add (iP (k + 1 + gapN l : Nat)) (iP 1))))) = some (o, gapV fr (nextA l) (k + 0) (k + (gapN l + 1)))
   unfold gapV
   rw [show k + (gapN l + 1) = k + 1 + gapN l by omega, Nat.add_zero]
 | (o, none) :: l, fr, k, j + 1, h => by
   have e : gapN ((o, none) :: l) = gapN l + 1 := rfl
   obtain ⟨o', h1, h2⟩ := fill_get l fr (k + 1) j (by omega)
   refine ⟨o', h1, ?_⟩
   show (fillP fr (k + 1) l)[j]? = some (o', gapV fr (nextA l) (k + (j + 1)) (k + (gapN l + 1)))
   rw [h2, show k + (j + 1) = k + 1 + j by omega, show k + (gapN l + 1) = k + 1 + gapN l by omega]
theorem fill_drop : ∀ (l : List En) (fr fr2 : Int) (k : Nat), gapN l < l.length → (fillP fr k l).drop (gapN l) = fillP fr2 0 (l.drop (gapN l))
 | [], _, _, _, h => by cases h
 | (o, some a) :: l, _, _, _, _ => rfl
 | (o, none) :: l, fr, fr2, k, h => by
   have e : gapN ((o, none) :: l) = gapN l + 1 := rfl
   rw [e, List.length_cons] at h
   exact fill_drop l fr fr2 (k + 1) (by omega)
theorem fill_len : ∀ (l : List En) (fr : Int) (k : Nat), (fillP fr k l).length = l.length
 | [], _, _ => rfl
 | (o, some a) :: l, _, _ => by show (fillP _ _ l).length + 1 = _; rw [fill_len]; rfl
 | (o, none) :: l, _, _ => by show (fillP _ _ l).length + 1 = _; rw [fill_len]; rfl
theorem next_gap : ∀ (l : List En) (o a : Int), l[gapN l]? = some (o, some a) → nextA l = a
 | [], _, _, h => by cases h
 | (o, some a) :: l, o', a', h => by
   have e : gapN ((o, some a) :: l) = 0 := rfl
   rw [e] at h
   simp at h
   exact h.2
 | (o, none) :: l, o', a', h => next_gap l o' a' h
theorem gap_lt : ∀ (l : List En), (∃ o a, l[l.length - 1]? = some (o, some a)) → gapN l < l.length
 | [], ⟨_, _, h⟩ => by cases h
 | (o, some a) :: l, _ => by show 0 < _; simp
 | (o, none) :: l, ⟨o', a', h⟩ => by
   cases l with
   | nil => simp at h
   | cons y r =>
     have := gap_lt (y :: r) ⟨o', a', by simpa using h⟩
     show gapN (y :: r) + 1 < _
     simp only [List.length_cons] at this ⊢
     omega
def someE (l : List (Int × Int)) : List En := l.map fun p => (p.1, some p.2)
theorem some_len (l : List (Int × Int)) : (someE l).length = l.length := List.length_map ..
theorem some_get {l : List (Int × Int)} {k : Nat} {o a : Int} (h : l[k]? = some (o, a)) : (someE l)[k]? = some (o, some a) := by unfold someE; rw [List.getElem?_map, h]; rfl
theorem some_app (l r : List (Int × Int)) : someE (l ++ r) = someE l ++ someE r := List.map_append ..
theorem row_step {A R : List En} {F : List (Int × Int)} {j : Nat} {o v : Int} (hF : F[j]? = some (o, v)) (hR : R[j]? = some (o, none)) :
  (A ++ someE (F.take j) ++ R.drop j)[A.length + j]? = some (o, none) ∧ (A ++ someE (F.take j) ++ R.drop j).set (A.length + j) (o, some v) = A ++ someE (F.take (j + 1)) ++ R.drop (j + 1) := by
 have hj := (List.getElem?_eq_some_iff.1 hF).1
 have hj2 := (List.getElem?_eq_some_iff.1 hR).1
 have hl : (A ++ someE (F.take j)).length = A.length + j := by rw [List.length_append, some_len, List.length_take]; omega
 refine ⟨?_, ?_⟩
 ·rw [List.getElem?_append_right (by omega), hl, Nat.sub_self, List.getElem?_drop, Nat.add_zero, hR]
 ·rw [List.set_append_right _ _ (by omega), hl, Nat.sub_self, List.drop_eq_getElem_cons hj2, List.set_cons_zero, List.take_add_one, hF]
  show _ = A ++ someE (F.take j ++ [(o, v)]) ++ _
  rw [some_app]
  simp [someE]
def lastA (l : List (Int × Int)) : Int := ((l[l.length - 1]?).getD (0, 0)).2
def LastS (l : List En) : Prop := l = [] ∨ ∃ o a, l[l.length - 1]? = some (o, some a)
theorem LastS.tail {x : En} {l : List En} (h : LastS (x :: l)) : LastS l := by
 rcases h with h | ⟨o, a, h⟩
 ·cases h
 ·cases l with
  | nil => exact .inl rfl
  | cons y r => exact .inr ⟨o, a, by simpa using h⟩
theorem LastS.drop : ∀ (k : Nat) {l : List En}, LastS l → LastS (l.drop k)
 | 0, _, h => h
 | k + 1, [], _ => .inl rfl
 | k + 1, x :: l, h => LastS.drop k h.tail
theorem LastS.gap {l : List En} (h : LastS l) (h0 : l ≠ []) : gapN l < l.length := gap_lt l (h.resolve_left h0)
theorem fill_ends {l : List En} {fr : Int} (h : gapN l < l.length) (fr2 : Int) : fillP fr 0 l = (fillP fr 0 l).take (gapN l) ++ fillP fr2 0 (l.drop (gapN l)) := by
 rw [← fill_drop l fr fr2 0 h, List.take_append_drop]
end Go.Proofs.YtlgencbldbpbdaaGreatDoor
namespace Go.Proofs.YtlgencbldbpbdaaGreatDoor
open Go.RowKit Fl
theorem set_same {α : Type} {l : List α} {k : Nat} {x : α} (h : l[k]? = some x) : l.set k x = l := by
 obtain ⟨hk, e⟩ := List.getElem?_eq_some_iff.1 h
 rw [← e]
 exact List.set_getElem_self hk
theorem OE.cap {w : World} {B g n c : Nat} {es : List En} (h : OE w B g n c es) : n ≤ c := by
 obtain ⟨-, xs, ho, -⟩ := h
 rcases ho.2 with ⟨h1, -⟩ | ⟨g', cap, cur, h1, h2, h3, h4, -⟩
 ·cases h1
 ·injection h1 with a1 a2 a3
  omega
theorem sl_pts (g n c i : Nat) (hi : i < n) (hc : n ≤ c) (W : World) : (Instr.sliceAt 144 (.slice (some ⟨g, 0, none⟩) n c) (some (.int .i64 i)) none none).run Tryz.prog W = .ok (.slice (some ⟨g, i * 3, none⟩) (n - i) (c - i)) W := by
 have e1 : Tryz.prog.elem 144 = 148 := by kernel_rfl
 have e2 : ∀ W, (sizeOf 148).run Tryz.prog W = .ok 3 W := Tryz.sizeOf148
 have hu : Tryz.prog.underlying 144 = some (.slice (Tryz.prog.elem 144)) := by rw [e1]; exact Tryz.underlying144
 rw [run_sliceAt_slice W 144 _ _ _ _ hu, run_slice_l W 144 (some ⟨g, 0, none⟩) n c hu .i64 (i : Int) (by omega) (by omega), e1, e2]
 have hne : ¬ c = i := by omega
 simp [Result.andThen_ok, sliced, hne, Addr.add]
 omega
theorem Bdn {B : Nat} {a w : World} (h : Below B a w) (n : Nat) : Below B a (w.drewN n) := ⟨h.os, h.tape, h.output, h.size, h.block⟩
theorem opq (op : BinOp) (ho : four op = true) : ∃ (F : Nat → Nat → World → Nat) (N : Nat → Nat → Nat), (∀ x y w, (binOp op 31 (.float .f64 x) (.float .f64 y)).run Tryz.prog w = .ok (.float .f64 (F x y w)) (w.drewN (N x y))) ∧ ∀ x y P Q w, RV x P → RV y Q → RV (F x y w) (opP op P Q) :=
 ⟨fop op, fopN op, fun x y w => run_fop op ho 31 x y w, fun _ _ _ _ w h1 h2 => RV.fop op h1 h2 w⟩
theorem opz (z : Int) : ∃ f, floatOfInt .f64 z = f ∧ RV f (iP z) := ⟨_, rfl, fz_RV z⟩
def GB (g : Nat) (w w' : World) : Prop := w.grownBy w' (some g)
theorem GB.refl (g : Nat) (w : World) : GB g w w := ⟨rfl, rfl, rfl, Nat.le_refl _, fun _ _ _ => rfl⟩
theorem GB.setCell {g : Nat} {w w' : World} (h : GB g w w') (o : Nat) (v : Value) : GB g w (w'.setCell ⟨g, o, none⟩ v) :=
 ⟨h.os, h.tape, h.output, by have := h.size; simp [World.setCell]; exact this, fun k hk hne => (Below.heap_setCell _ _ _ k (fun e => hne (by rw [e]))).trans (h.block k hk hne)⟩
theorem GB.below {g : Nat} {w w1 w' : World} (h : GB g w w1) (hb : Below w1.heap.size w1 w') : GB g w w' :=
 ⟨hb.os.trans h.os, hb.tape.trans h.tape, hb.output.trans h.output, Nat.le_trans h.size hb.size, fun k hk hne => (hb.block k (Nat.lt_of_lt_of_le hk h.size)).trans (h.block k hk hne)⟩
theorem GB.drewN {g : Nat} {w w' : World} (h : GB g w w') (n : Nat) : GB g w (w'.drewN n) := ⟨h.os, h.tape, h.output, h.size, h.block⟩
theorem GB.to {B g : Nat} {w0 w w' : World} (h : GB g w w') (hg : B ≤ g) (hb : Below B w0 w) (hB : B ≤ w.heap.size) : Below B w0 w' := hb.grown h hB fun k hk => by injection hk with hk; omega
theorem fill_world {w wr : World} {B g n c kk : Nat} {X Y : List En} {e : En} {o : Int} {x : Int} (hO : OE wr B g n c X) (hB : GB g w wr) (s1 : X[kk]? = some e) (he : e.1 = o) (s2 : X.set kk (o, some x) = Y) (V m : Nat) (hV : RV V x) :
  OE (((wr.drewN m).setCell ⟨g, kk * 3 + 1, none⟩ (.float .f64 V)).setCell ⟨g, kk * 3 + 2, none⟩ (.bool true)) B g n c Y ∧ GB g w (((wr.drewN m).setCell ⟨g, kk * 3 + 1, none⟩ (.float .f64 V)).setCell ⟨g, kk * 3 + 2, none⟩ (.bool true)) := by
 obtain ⟨o', a⟩ := e
 subst he
 have := (hO.drewN m).both s1 hV
 rw [s2] at this
 exact ⟨this, ((hB.drewN m).setCell (kk * 3 + 1) _).setCell (kk * 3 + 2) _⟩
set_option maxRecDepth 100000 in
set_option maxHeartbeats 4000000 in
theorem k92 (B g n c : Nat) (es : List En) (w : World) (h : OE w B g n c es) (h2 : 2 ≤ n) (hn : n ≤ 1000) :
  Calls Tryz.prog 92 #[.slice (some ⟨g, 0, none⟩) n c] w fun e w' => e = .returned (.tuple #[]) ∧ OE w' B g n c (someE (fillP 0 0 (riseP (firstA (lastP (headP es))) (lastP (headP es))))) ∧ GB g w w' := by
 have H := Lib.hid (And.intro h (And.intro h2 hn))
 have hsf := fun (a : Addr) (x : Nat) (m : Mode) (W : World) => (show (store a (.float .f64 x) m).run Tryz.prog W = stored Tryz.prog W a (.float .f64 x) m from run_store Tryz.prog W a _ m rfl)
 obtain ⟨R, hR0⟩ : ∃ R, R = someE (fillP 0 0 (riseP (firstA (lastP (headP es))) (lastP (headP es)))) := ⟨_, rfl⟩
 rw [← hR0]
 have hR := Lib.hid hR0
 have nb : (n : Int) ≤ 1000 := by omega
 have nb2 : (2 : Int) ≤ (n : Int) := by omega
 obtain ⟨⟨o0, a0⟩, he0⟩ : ∃ e, es[0]? = some e := ⟨es[0]'(by have := h.1; omega), List.getElem?_eq_getElem _⟩
 obtain ⟨ow, aw, hro, hra, ⟨c1, c2, c3⟩, f1, f2⟩ := h.cells he0
 simp only [Nat.zero_mul, Nat.zero_add] at c1 c2 c3 f1 f2
 have E0 := Lib.hid he0
 have HS := Lib.hid (head_set he0)
 have RA := Lib.hid (And.intro hro hra)
 clear h h2 hn hR0 he0 hro hra
 go_enter Tryz.func92, Tryz.ntmps92
 go_upto_if 15 with fail
 go_cut [] (fun wx => Hid (OE wx B g n c (headP es) ∧ GB g w wx))
 case first => as_aux_lemma =>
  cases a0 with
  | none =>
    go_wp2
    go_meet
    refine Lib.hid ⟨?_, ?_⟩
    ·rw [HS.out]
     have := H.out.1.both E0.out zero_RV
     simpa using this
    ·have hb := H.out.1.block.1
     exact ((GB.refl g w).setCell 1 _).setCell 2 _
  | some a =>
    go_wp2
    go_meet
    refine Lib.hid ⟨?_, GB.refl _ _⟩
    rw [HS.out]
    have e : es.set 0 (o0, some ((some a : Option Int).getD 0)) = es := by
     have := E0.out
     cases es with
     | nil => cases this
     | cons x r => simp at this; subst this; rfl
    rw [e]
    exact H.out.1
 case rest =>
  obtain ⟨s, hs⟩ : ∃ s, s = headP es := ⟨_, rfl⟩
  have HC := hcut
  rw [← hs] at HC
  have hlen : s.length = n := by rw [hs, head_len]; exact H.out.1.1
  have hR2 : Hid (R = someE (fillP 0 0 (riseP (firstA (lastP s)) (lastP s)))) := Lib.hid (by rw [hR.out, hs])
  have h00 : Hid (s[0]? = some (o0, some (a0.getD 0))) := Lib.hid (by
   rw [hs, HS.out]
   have h1 := H.out.1.1
   have h2 := H.out.2.1
   rw [List.getElem?_set_self (by omega)])
  clear hs hcut hR HS RA E0 c1 c2 c3 f1 f2
  obtain ⟨q, hq⟩ : ∃ q, q = n - 1 := ⟨_, rfl⟩
  have qn : q + 1 = n := by have := H.out.2.1; omega
  have hqi : (n : Int) - 1 = (q : Int) := by omega
  have hqb : (q : Int) < (n : Int) := by omega
  obtain ⟨⟨o1, a1⟩, he1⟩ : ∃ e, s[q]? = some e := ⟨s[q]'(by omega), List.getElem?_eq_getElem _⟩
  obtain ⟨ow1, aw1, hro, hra, ⟨c1, c2, c3⟩, f1, f2⟩ := HC.out.1.cells he1
  have HL := Lib.hid (last_set (es := s) (o := o1) (a := a1) (by rw [hlen]; exact hq ▸ he1) (by omega))
  have E1 := Lib.hid (And.intro he1 (And.intro hlen qn))
  clear he1 hro hra hq hlen
  go_upto_if 30 with fail
  go_cut [] (fun wx => Hid (OE wx B g n c (lastP s) ∧ GB g w wx))
  case first => as_aux_lemma =>
   cases a1 with
   | none =>
     go_wp2
     go_meet
     refine Lib.hid ⟨?_, ?_⟩
     ·rw [HL.out, E1.out.2.1, show n - 1 = q by have := E1.out.2.2; omega]
      exact HC.out.1.both E1.out.1 one_RV
     ·have hb := HC.out.1.block.1
      exact (HC.out.2.setCell (q * 3 + 1) _).setCell (q * 3 + 2) _
   | some a =>
     go_wp2
     go_meet
     refine Lib.hid ⟨?_, HC.out.2⟩
     have e : s.set (s.length - 1) (o1, some ((some a : Option Int).getD (iP 1))) = s := by
      rw [E1.out.2.1, show n - 1 = q by have := E1.out.2.2; omega]
      exact set_same E1.out.1
     rw [HL.out, e]
     exact HC.out.1
  case rest =>
   obtain ⟨t, ht⟩ : ∃ t, t = lastP s := ⟨_, rfl⟩
   have HD := hcut
   rw [← ht] at HD
   have hlt : t.length = n := by rw [ht, last_len]; exact E1.out.2.1
   obtain ⟨p0, hp0⟩ : ∃ p0, p0 = a0.getD 0 := ⟨_, rfl⟩
   rw [← hp0] at h00
   have ht0 : t[0]? = some (o0, some p0) := by
    rw [ht, HL.out, List.getElem?_set_ne (by have := E1.out.2.1; have := H.out.2.1; omega)]
    exact h00.out
   have htq : ∃ o a, t[q]? = some (o, some a) := by
    refine ⟨o1, a1.getD (iP 1), ?_⟩
    rw [ht, HL.out, show s.length - 1 = q by have := E1.out.2; omega, List.getElem?_set_self (by have := E1.out.2; omega)]
   have hf : firstA t = p0 := by
    cases t with
    | nil => cases ht0
    | cons x r => simp at ht0; subst ht0; rfl
   have hR3 : Hid (R = someE (fillP 0 0 (riseP p0 t))) := Lib.hid (by rw [hR2.out, ← ht, hf])
   obtain ⟨ow2, aw2, hro, hra, ⟨c1, c2, c3⟩, f1, f2⟩ := HD.out.1.cells ht0
   simp only [Nat.zero_mul, Nat.zero_add] at c1 c2 c3
   have E2 := Lib.hid (And.intro hlt (And.intro ht0 (And.intro htq E1.out.2.2)))
   have RM := Lib.hid (hra p0 rfl)
   clear hcut hR2 h00 HL HC E1 ht hlt ht0 htq hf hro hra hp0 f1 f2 c3
   go_wp2_with fail
   go_loopw [3, 45] (fun v i wx => ∃ k mw : Nat, k ≤ n ∧ i = .int .i64 k ∧ v = .float .f64 mw ∧ Hid (RV mw (mostA p0 (t.take k))) ∧ Hid (OE wx B g n c (riseP p0 (t.take k) ++ t.drop k)) ∧ Hid (GB g w wx)) (fun _ i _ => n - (Lib.intOf i).toNat)
   case atStart => exact ⟨0, aw2, Nat.zero_le _, rfl, rfl, RM, Lib.hid HD.out.1, Lib.hid HD.out.2⟩
   case round => as_aux_lemma =>
    clear c1 c2 RM HD
    obtain ⟨k, mw, hk, rfl, rfl, hm, hO, hB⟩ := hrel
    by_cases hlt : k < n
    ·have hki : (k : Int) < (n : Int) := by omega
     obtain ⟨⟨o, a⟩, he⟩ : ∃ e, t[k]? = some e := ⟨t[k]'(by have := E2.out.1; omega), List.getElem?_eq_getElem _⟩
     obtain ⟨ow, aw, hro, hra, ⟨d1, d2, d3⟩, g1, g2⟩ := hO.out.cells (rise_get he)
     have HLT := Lib.hid hlt
     cases a with
     | none =>
       obtain ⟨r1, r2⟩ := rise_none (m := p0) he
       have hO2 : Hid (OE wr B g n c (riseP p0 (t.take (k + 1)) ++ t.drop (k + 1))) := Lib.hid (by rw [r1]; exact hO.out)
       have hm2 : Hid (RV mw (mostA p0 (t.take (k + 1)))) := Lib.hid (by rw [r2]; exact hm.out)
       have d3' : wr.cell? ⟨g, k * 3 + 2, none⟩ = some (.bool false) := d3
       clear r1 r2 hO hm d3 hra hro he hlt hk
       go_wp2
       go_roundw
       case rel => exact ⟨k + 1, mw, by have := HLT.out; omega, by go_num, rfl, hm2, hO2, hB⟩
       case measure => have := HLT.out; simp [Lib.intOf]; omega
     | some a =>
       obtain ⟨r1, r2⟩ := rise_some (m := p0) he
       have ha := hra a rfl
       have q1 := RV.lt ha hm.out
       have HE := Lib.hid (rise_get (m := p0) he)
       have d3' : wr.cell? ⟨g, k * 3 + 2, none⟩ = some (.bool true) := d3
       cases bb : fltP a (mostA p0 (t.take k))
       ·rw [bb] at q1 r1 r2
        have hO2 : Hid (OE wr B g n c (riseP p0 (t.take (k + 1)) ++ t.drop (k + 1))) := Lib.hid (by rw [r1, if_neg (by decide), set_same HE.out]; exact hO.out)
        have hm2 : Hid (RV aw (mostA p0 (t.take (k + 1)))) := Lib.hid (by rw [r2, if_neg (by decide)]; exact ha)
        clear r1 r2 hO hm d3 hra hro he hlt hk bb ha
        go_wp2
        go_roundw
        case rel => exact ⟨k + 1, aw, by have := HLT.out; omega, by go_num, rfl, hm2, hO2, hB⟩
        case measure => have := HLT.out; simp [Lib.intOf]; omega
       ·rw [bb] at q1 r1 r2
        have hO2 : Hid (OE (wr.setCell ⟨g, k * 3 + 1, none⟩ (.float .f64 mw)) B g n c (riseP p0 (t.take (k + 1)) ++ t.drop (k + 1))) := Lib.hid (by rw [r1, if_pos rfl]; exact hO.out.at1 HE.out hm.out)
        have hm2 : Hid (RV mw (mostA p0 (t.take (k + 1)))) := Lib.hid (by rw [r2, if_pos rfl]; exact hm.out)
        have hB2 : Hid (GB g w (wr.setCell ⟨g, k * 3 + 1, none⟩ (.float .f64 mw))) := Lib.hid (hB.out.setCell (k * 3 + 1) _)
        clear r1 r2 hO hm d3 hra hro he hlt hk bb ha
        go_wp2
        go_roundw
        case rel => exact ⟨k + 1, mw, by have := HLT.out; omega, by go_num, rfl, hm2, hO2, hB2⟩
        case measure => have := HLT.out; simp [Lib.intOf]; omega
    ·have hki : ¬ (k : Int) < (n : Int) := by omega
     have hkn : k = n := by omega
     obtain ⟨r, hr⟩ : ∃ r, r = riseP p0 t := ⟨_, rfl⟩
     have eR : riseP p0 (t.take k) ++ t.drop k = r := by rw [hkn, ← E2.out.1, List.take_length, List.drop_length, List.append_nil, hr]
     have hO' : Hid (OE wr B g n c r) := Lib.hid (by rw [← eR]; exact hO.out)
     have hrl : r.length = n := by rw [hr, rise_len]; exact E2.out.1
     have hT : Hid (R = someE (fillP 0 0 r)) := Lib.hid (by rw [hR3.out, hr])
     have sd := rise_said t p0
     rw [← hr] at sd
     obtain ⟨o2, x2, hr0⟩ : ∃ o a, r[0]? = some (o, some a) := by
      have := sd 0
      rw [E2.out.2.1] at this
      cases h : r[0]? with
      | none => rw [h] at this; cases this
      | some e =>
        obtain ⟨o, a⟩ := e
        rw [h] at this
        cases a with
        | none => simp at this
        | some a => exact ⟨o, a, rfl⟩
     have hLS : LastS r := by
      refine .inr ?_
      obtain ⟨o3, a3, h3⟩ := E2.out.2.2.1
      have := sd q
      rw [h3] at this
      rw [show r.length - 1 = q by have := E2.out.2.2.2; omega]
      cases h : r[q]? with
      | none => rw [h] at this; cases this
      | some e =>
        obtain ⟨o, a⟩ := e
        rw [h] at this
        cases a with
        | none => simp at this
        | some a => exact ⟨o, a, rfl⟩
     have ST : Hid (∃ dn rest, dn.length = 1 ∧ r = someE dn ++ rest ∧ fillP 0 0 r = dn ++ fillP (lastA dn) 0 rest ∧ LastS rest) := Lib.hid (by
      cases r with
      | nil => cases hr0
      | cons x r' =>
        simp at hr0
        subst hr0
        exact ⟨[(o2, x2)], r', rfl, rfl, rfl, hLS.tail⟩)
     have hB' := hB
     have HN := Lib.hid (And.intro hrl H.out.2)
     obtain ⟨T, hTT⟩ : ∃ T, T = fillP 0 0 r := ⟨_, rfl⟩
     rw [← hTT] at hT ST
     clear hm hO hB eR hlt hkn hk hr sd hr0 hLS hR3 E2 hTT hqi hqb qn
     go_wp2_with fail
     go_loopw [5] (fun v wx => ∃ (i d : Nat) (dn : List (Int × Int)) (rest : List En), v = .int .i64 i ∧ 1 ≤ i ∧ i ≤ d ∧ d ≤ n ∧ Hid (dn.length = d ∧ rest.length = n - d ∧ T = dn ++ fillP (lastA dn) 0 rest ∧ LastS rest) ∧ Hid (OE wx B g n c (someE dn ++ rest)) ∧ Hid (GB g w wx)) (fun v _ => n - (Lib.intOf v).toNat)
     case atStart =>
      obtain ⟨dn, rest, h1, h2, h3, h4⟩ := ST.out
      refine ⟨1, 1, dn, rest, rfl, Nat.le_refl _, Nat.le_refl _, by have := HN.out.2.1; omega, Lib.hid ⟨h1, ?_, h3, h4⟩, Lib.hid (by rw [← h2]; exact hO'.out), hB'⟩
      have := HN.out.1
      rw [h2, List.length_append, some_len, h1] at this
      omega
     case round => as_aux_lemma =>
      clear hO' ST hB'
      obtain ⟨i, d, dn, rest, rfl, i1, id, dN, hD, hO, hB⟩ := hrel
      obtain ⟨hdl, hrl, hTd, hLS⟩ := hD.out
      by_cases hlt : i < n
      ·have hki : (i : Int) < (n : Int) := by omega
       by_cases hid : i < d
       ·obtain ⟨⟨o, a⟩, he⟩ : ∃ e, dn[i]? = some e := ⟨dn[i]'(by omega), List.getElem?_eq_getElem _⟩
        obtain ⟨ow, aw, -, -, ⟨d1, d2, d3⟩, -, -⟩ := hO.out.cells (k := i) (e := (o, some a)) (by rw [List.getElem?_append_left (by rw [some_len]; omega)]; exact some_get he)
        have d3' : wr.cell? ⟨g, i * 3 + 2, none⟩ = some (.bool true) := d3
        have HI := Lib.hid (And.intro i1 (And.intro hid (And.intro dN hlt)))
        clear d3 he hdl hrl hTd hLS hid i1 id dN hlt
        go_wp2
        go_roundw
        case rel => exact ⟨i + 1, d, dn, rest, by go_num, by omega, by have := HI.out; omega, HI.out.2.2.1, hD, hO, hB⟩
        case measure => have := HI.out; simp [Lib.intOf]; omega
       ·have eid : i = d := by omega
        subst eid
        obtain ⟨⟨o, a⟩, he⟩ : ∃ e, rest[0]? = some e := ⟨rest[0]'(by omega), List.getElem?_eq_getElem _⟩
        have heR : (someE dn ++ rest)[i]? = some (o, a) := by rw [List.getElem?_append_right (by rw [some_len]; omega), some_len, hdl, Nat.sub_self]; exact he
        obtain ⟨ow, aw, -, hra, ⟨d1, d2, d3⟩, -, -⟩ := hO.out.cells heR
        cases a with
        | some a =>
          have d3' : wr.cell? ⟨g, i * 3 + 2, none⟩ = some (.bool true) := d3
          have HI := Lib.hid (And.intro i1 hlt)
          obtain ⟨r', hr'⟩ : ∃ r', rest = (o, some a) :: r' := by
           cases rest with
           | nil => cases he
           | cons x r' => simp at he; subst he; exact ⟨r', rfl⟩
          subst hr'
          have hD2 : Hid ((dn ++ [(o, a)]).length = i + 1 ∧ r'.length = n - (i + 1) ∧ T = (dn ++ [(o, a)]) ++ fillP (lastA (dn ++ [(o, a)])) 0 r' ∧ LastS r') := Lib.hid (by
           refine ⟨by simp [hdl], by simp at hrl; omega, ?_, hLS.tail⟩
           have el : lastA (dn ++ [(o, a)]) = a := by unfold lastA; simp
           rw [hTd, el, List.append_assoc]
           rfl)
          have hO2 : Hid (OE wr B g n c (someE (dn ++ [(o, a)]) ++ r')) := Lib.hid (by
           rw [some_app, List.append_assoc]
           exact hO.out)
          clear d3 he heR hdl hrl hTd hLS hid i1 id dN hlt hra hD hO
          go_wp2
          go_roundw
          case rel => exact ⟨i + 1, i + 1, dn ++ [(o, a)], r', by go_num, by omega, Nat.le_refl _, by have := HI.out; omega, hD2, hO2, hB⟩
          case measure => have := HI.out; simp [Lib.intOf]; omega
        | none =>
          have d3' : wr.cell? ⟨g, i * 3 + 2, none⟩ = some (.bool false) := d3
          have HI := Lib.hid (And.intro i1 hlt)
          have hne : rest ≠ [] := fun e => by rw [e] at he; cases he
          have hgap := hLS.gap hne
          obtain ⟨G, hG⟩ : ∃ G, G = gapN rest := ⟨_, rfl⟩
          have hG1 : 1 ≤ G := by
           rw [hG]
           cases rest with
           | nil => cases he
           | cons x r' => simp at he; subst he; show 1 ≤ gapN r' + 1; omega
          obtain ⟨dp, hdp⟩ : ∃ dp, i = dp + 1 := ⟨i - 1, by omega⟩
          obtain ⟨⟨od, pd⟩, hde⟩ : ∃ e, dn[dp]? = some e := ⟨dn[dp]'(by omega), List.getElem?_eq_getElem _⟩
          have hla : lastA dn = pd := by unfold lastA; rw [hdl, hdp, Nat.add_sub_cancel, hde]; rfl
          obtain ⟨ot, pt, hte⟩ := gap_some rest hgap
          have hnx := next_gap rest ot pt hte
          have hdrop : (someE dn ++ rest).drop i = rest := by rw [List.drop_append_of_le_length (by rw [some_len]; omega), List.drop_of_length_le (by rw [some_len]; omega), List.nil_append]
          have rowd : (someE dn ++ rest)[dp]? = some (od, some pd) := by rw [List.getElem?_append_left (by rw [some_len]; omega)]; exact some_get hde
          obtain ⟨e0, he0⟩ : ∃ e0, e0 = i + G := ⟨_, rfl⟩
          have rowe : (someE dn ++ rest)[e0]? = some (ot, some pt) := by rw [List.getElem?_append_right (by rw [some_len]; omega), some_len, hdl, he0, Nat.add_sub_cancel_left, hG]; exact hte
          have hen : e0 < n := by omega
          have C146 := Lib.hid (k146 B g n c i (c - i) (someE dn ++ rest) wr hO.out hlt HN.out.2.2 (by rw [hdrop, ← hG]; omega))
          rw [hdrop, ← hG] at C146
          have hsl := sl_pts g n c i hlt hO.out.cap
          have hei : (i : Int) + (G : Int) = (e0 : Int) := by omega
          have hge : (e0 : Int) - (i : Int) = (G : Int) := by omega
          have hdi : (i : Int) - 1 = (dp : Int) := by omega
          have ei : (e0 : Int) < (n : Int) := by omega
          have di : (dp : Int) < (n : Int) := by omega
          obtain ⟨fG, hcG, rG⟩ := opz (G : Int)
          have RG := Lib.hid rG
          clear rG
          have HG := Lib.hid (And.intro hG (And.intro hG1 (And.intro he0 (And.intro hen (And.intro hgap hnx)))))
          have HT2 := Lib.hid (And.intro hdl (And.intro hrl (And.intro hTd (And.intro hLS hla))))
          have RW := Lib.hid (And.intro rowd rowe)
          clear hne hgap hG hG1 hdp hde hla hte hnx hdrop rowd rowe he0 hen he heR hdl hrl hTd hLS hid i1 id dN hlt hra d3 hD
          go_upto_region 19 with (go_at_call 146; refine C146.out.mono ?_; rintro e w2 ⟨rfl, hb2⟩; have B2 := Lib.hid hb2; clear hb2)
          have OE2 := hO.out.below B2.out
          obtain ⟨fo, fw, -, hfr, ⟨x1, x2, x3⟩, -, -⟩ := OE2.cells RW.out.1
          obtain ⟨to_, tw, -, htr, ⟨y1, y2, y3⟩, -, -⟩ := OE2.cells RW.out.2
          have HFT := Lib.hid (And.intro (hfr pd rfl) (htr pt rfl))
          have OE3 := Lib.hid (And.intro OE2 (hB.out.below B2.out))
          clear hfr htr OE2
          go_wp2_with fail
          go_region
          obtain ⟨F, hF⟩ : ∃ F, F = fillP (lastA dn) 0 rest := ⟨_, rfl⟩
          have HF := Lib.hid hF
          clear hF x1 x2 x3 y1 y2 y3 d1 d2 d3' hsl hO hB
          obtain ⟨FA, NA, fA, RA⟩ := opq .add rfl
          obtain ⟨FS, NS, fS, RS⟩ := opq .sub rfl
          obtain ⟨FM, NM, fM, RM⟩ := opq .mul rfl
          obtain ⟨FQ, NQ, fQ, RQ⟩ := opq .quo rfl
          have ROP := Lib.hid (And.intro RA (And.intro RS (And.intro RM RQ)))
          clear RA RS RM RQ
          go_wp2_with fail
          go_loopw [10] (fun v wx => ∃ kk : Nat, v = .int .i64 kk ∧ i ≤ kk ∧ kk ≤ e0 ∧ Hid (OE wx B g n c (someE dn ++ someE (F.take (kk - i)) ++ rest.drop (kk - i))) ∧ Hid (GB g w wx)) (fun v _ => e0 - (Lib.intOf v).toNat)
          case atStart =>
           refine ⟨i, rfl, Nat.le_refl _, by have := HG.out; omega, Lib.hid ?_, Lib.hid (OE3.out.2.drewN 1)⟩
           rw [Nat.sub_self, List.take_zero, List.drop_zero]
           have := OE3.out.1.drewN 1
           rw [show someE ([] : List (Int × Int)) = [] from rfl, List.append_nil]
           exact this
          case round => as_aux_lemma =>
           clear OE3 B2
           obtain ⟨kk, rfl, k1, k2, hO, hB⟩ := hrel
           by_cases hkk : kk < e0
           ·have hki2 : (kk : Int) < (e0 : Int) := by omega
            have hkn2 : (kk : Int) < (n : Int) := by omega
            have hik : (i : Int) ≤ (kk : Int) := by omega
            obtain ⟨j, hj⟩ : ∃ j, j = kk - i := ⟨_, rfl⟩
            have ekk : kk = i + j := by omega
            obtain ⟨o, hR0, hF0⟩ := fill_get rest (lastA dn) 0 j (by have := HG.out; omega)
            rw [← HF.out, Nat.zero_add, Nat.zero_add, ← HG.out.1, HG.out.2.2.2.2.2, HT2.out.2.2.2.2] at hF0
            obtain ⟨s1, s2⟩ := row_step (A := someE dn) hF0 hR0
            rw [some_len, HT2.out.1, ← ekk] at s1 s2
            rw [← hj] at hO
            obtain ⟨ow3, aw3, -, -, ⟨z1, z2, z3⟩, u1, u2⟩ := hO.out.cells s1
            obtain ⟨fj, hcv, rj⟩ := opz ((kk : Int) - (i : Int) + 1)
            rw [show (kk : Int) - (i : Int) + 1 = ((j + 1 : Nat) : Int) by omega] at rj
            have OB : Hid (∀ (V : Nat) (m : Nat), RV V (gapV pd pt j G) → OE (((wr.drewN m).setCell ⟨g, kk * 3 + 1, none⟩ (.float .f64 V)).setCell ⟨g, kk * 3 + 2, none⟩ (.bool true)) B g n c (someE dn ++ someE (F.take (kk + 1 - i)) ++ rest.drop (kk + 1 - i)) ∧ GB g w (((wr.drewN m).setCell ⟨g, kk * 3 + 1, none⟩ (.float .f64 V)).setCell ⟨g, kk * 3 + 2, none⟩ (.bool true))) := Lib.hid (by
             rw [show kk + 1 - i = j + 1 by omega]
             exact fun V m hV => fill_world hO.out hB.out s1 rfl s2 V m hV)
            have HVV : Hid (∀ w1 w2 w3 w4 w5 : World, RV (FA fw (FM (FS tw fw w1) (FQ fj (FA fG 4607182418800017408 w2) w3) w4) w5) (gapV pd pt j G)) := Lib.hid (fun w1 w2 w3 w4 w5 =>
             ROP.out.1 _ _ _ _ w5 HFT.out.1 (ROP.out.2.2.1 _ _ _ _ w4 (ROP.out.2.1 _ _ _ _ w1 HFT.out.2 HFT.out.1) (ROP.out.2.2.2 _ _ _ _ w3 rj (ROP.out.1 _ _ _ _ w2 RG.out one_RV))))
            have HK := Lib.hid (And.intro hkk k1)
            clear hkk k1 k2 hj ekk hR0 hF0 s1 s2 hO hB rj
            go_wp2
            go_roundw
            case rel => exact ⟨kk + 1, by go_num, by have := HK.out; omega, by have := HK.out; omega, Lib.hid (OB.out _ _ (HVV.out _ _ _ _ _)).1, Lib.hid (OB.out _ _ (HVV.out _ _ _ _ _)).2⟩
            case measure => have := HK.out; simp [Lib.intOf]; omega
           ·have hki2 : ¬ (kk : Int) < (e0 : Int) := by omega
            have ekk : kk - i = G := by have := HG.out; omega
            have hG2 := HG.out
            have hT2 := HT2.out
            have hFl : F.length = rest.length := by rw [HF.out, fill_len]
            have hDD : Hid ((dn ++ F.take G).length = e0 ∧ (rest.drop G).length = n - e0 ∧ T = (dn ++ F.take G) ++ fillP (lastA (dn ++ F.take G)) 0 (rest.drop G) ∧ LastS (rest.drop G)) := Lib.hid (by
             refine ⟨?_, ?_, ?_, hT2.2.2.2.1.drop G⟩
             ·rw [List.length_append, List.length_take, hT2.1]; omega
             ·rw [List.length_drop, hT2.2.1]; omega
             ·rw [hT2.2.2.1, List.append_assoc]
              congr 1
              rw [HF.out, hG2.1]
              exact fill_ends hG2.2.2.2.2.1 _)
            have hOO : Hid (OE wr B g n c (someE (dn ++ F.take G) ++ rest.drop G)) := Lib.hid (by
             have := hO.out
             rw [ekk] at this
             rw [some_app]
             exact this)
            clear k1 k2 hkk ekk hG2 hT2 hFl hO
            go_wp2
            go_roundw
            case rel => exact ⟨i + 1, e0, dn ++ F.take G, rest.drop G, by go_num, by omega, by have := HG.out; omega, by have := HG.out; omega, hDD, hOO, hB⟩
            case measure => have := HI.out; simp [Lib.intOf]; omega
      ·have hki : ¬ (i : Int) < (n : Int) := by omega
       have e1 : d = n := by omega
       have e2 : rest = [] := List.eq_nil_of_length_eq_zero (by omega)
       have HF : Hid (OE wr B g n c R) := Lib.hid (by
        have := hO.out
        rw [e2, List.append_nil] at this
        rw [hT.out, hTd, e2, show fillP (lastA dn) 0 [] = [] from rfl, List.append_nil]
        exact this)
       clear hdl hrl hTd hLS hlt id dN e1 e2
       go_wp2
       refine bodyPost_end (v := .tuple #[]) (results_none rfl _ _ _) rfl ⟨rfl, HF.out, hB.out⟩
end Go.Proofs.YtlgencbldbpbdaaGreatDoor
namespace Go.Proofs.YtlgencbldbpbdaaGreatDoor
open Go.RowKit Fl
theorem wp_gen1 {P : Program} {c : Code} {Q : Exit → Act → World → Prop} {a : Act} {w : World} (R : World → Prop) (h : R w) (k : ∀ wx, R wx → c.wp P Q a wx) : c.wp P Q a w := k w h
theorem isI_infP {p : Nat} {P : Int} (h : RV p P) : isI p = infP P := by
 obtain ⟨u, rfl⟩ := h
 unfold isI infP
 refine decide_eq_decide.2 ?_
 have hr := rg_lt p
 have hI : INF = 9218868437227405312 := rfl
 cases hn : isN p
 ·have := isN_false hn
  cases hs : sg p
  ·rw [pl_pos hn hs]; omega
  ·rw [pl_neg hn hs]; omega
 ·have := isN_true hn
  rw [pl_nan hn]; unfold NP; omega
set_option maxRecDepth 100000 in
set_option maxHeartbeats 4000000 in
theorem k80_1f {x : Nat} {X : Int} (hx : RV x X) (n : Nat) {mw : Nat} (hm : RV mw (mP n 1)) (bn bj bm : Nat) (w : World)
  (kn : w.cell? ⟨bn, 0, none⟩ = some (.int .i64 n)) (kj : w.cell? ⟨bj, 0, none⟩ = some (.int .i64 1)) (km : w.cell? ⟨bm, 0, none⟩ = some (.float .f64 mw)) :
  Calls Tryz.prog 80 #[.float .f64 x, .bool false, .pointer (some ⟨bn, 0, none⟩), .pointer (some ⟨bj, 0, none⟩), .pointer (some ⟨bm, 0, none⟩)] w fun e w' => RetR (stepsP n 1 X false) e ∧ ∃ q, w' = w.drewN q := by
 obtain ⟨R, hR0⟩ : ∃ R, R = stepsP n 1 X false := ⟨_, rfl⟩
 rw [← hR0]
 have hR := Lib.hid hR0
 clear hR0
 have hmul := fun w => run_fop (P := Tryz.prog) .mul rfl 31 x (fz n) w
 have hadd := fun s w => run_fop (P := Tryz.prog) .add rfl 31 s 4607182418800017408 w
 have hsub := fun s w => run_fop (P := Tryz.prog) .sub rfl 31 s 4607182418800017408 w
 have hquo := fun s w => run_fop (P := Tryz.prog) .quo rfl 31 s mw w
 have kn' : ∀ q, (w.drewN q).cell? ⟨bn, 0, none⟩ = some (.int .i64 n) := fun _ => kn
 have kj' : ∀ q, (w.drewN q).cell? ⟨bj, 0, none⟩ = some (.int .i64 1) := fun _ => kj
 have km' : ∀ q, (w.drewN q).cell? ⟨bm, 0, none⟩ = some (.float .f64 mw) := fun _ => km
 have hfz : floatOfInt .f64 (n : Int) = fz n := rfl
 have FL := Lib.hid (fun (p : Nat) (P : Int) (h : RV p P) (w : World) => eFloor h w)
 have HP := Lib.hid (fun w => RV.fop .mul hx (fz_RV n) w)
 have HX := Lib.hid hx
 have HM := Lib.hid hm
 clear hx hm
 go_enter Tryz.func80, Tryz.ntmps80
 go_upto_region 3 with (go_at_call 81; refine (FL.out _ _ (HP.out _) _).mono ?_; rintro e w1 ⟨⟨r, rfl, hr⟩, q, rfl⟩; have HR := Lib.hid hr; clear hr)
 go_upto_region 7 with fail
 generalize hs : fop .add r 4607182418800017408 _ = s
 have HS : Hid (RV s (stB n 1 X false)) := Lib.hid (by rw [← hs]; unfold stB stA; rw [if_neg (fun h => by cases h.1), if_pos (by decide)]; exact RV.fop .add HR.out one_RV _)
 clear hs
 refine wp_gen1 (fun wx => ∃ q, wx = w.drewN q) ⟨_, rfl⟩ ?_
 rintro wx ⟨q9, rfl⟩
 have ST : Hid (stepsP n 1 X false = opP .quo (if fleP X (iP 1) = true ∧ fltP (mP n 1) (if fleP 0 X = true ∧ fltP (stB n 1 X false) 0 = true then 0 else stB n 1 X false) = true then mP n 1 else (if fleP 0 X = true ∧ fltP (stB n 1 X false) 0 = true then 0 else stB n 1 X false)) (mP n 1)) := Lib.hid rfl
 obtain ⟨S, hS⟩ : ∃ S, S = stB n 1 X false := ⟨_, rfl⟩
 rw [← hS] at HS ST
 rw [← hR.out] at ST
 have c1 := RV.ge HX.out zero_RV
 have c2 := RV.lt HS.out zero_RV
 have c3 := RV.le HX.out one_RV
 have c4 := RV.gt HS.out HM.out
 have c5 := RV.gt zero_RV HM.out
 have HQ := Lib.hid (fun w => RV.fop .quo HS.out HM.out w)
 have H0 := Lib.hid (fun w => RV.fop .quo zero_RV HM.out w)
 have H1 := Lib.hid (fun w => RV.fop .quo HM.out HM.out w)
 clear hmul hadd hsub hS hR
 cases b1 : fleP 0 X <;> cases b2 : fltP S 0 <;> cases b3 : fleP X (iP 1) <;> cases b4 : fltP (mP n 1) S <;> cases b5 : fltP (mP n 1) 0
 all_goals
  rw [b1] at c1
  rw [b2] at c2
  rw [b3] at c3
  rw [b4] at c4
  rw [b5] at c5
  have HB := Lib.hid (And.intro b1 (And.intro b2 (And.intro b3 (And.intro b4 b5))))
  clear b1 b2 b3 b4 b5
  go_wp2
  go_ret
  refine ⟨⟨_, rfl, ?_⟩, _, rfl⟩
  obtain ⟨b1, b2, b3, b4, b5⟩ := HB.out
  rw [ST.out]
  simp only [b1, b2, b3, b4, b5, Bool.false_eq_true, false_and, and_false, and_self, if_true, if_false]
  first | exact HQ.out _ | exact H0.out _ | exact H1.out _
set_option maxRecDepth 100000 in
set_option maxHeartbeats 4000000 in
theorem k80_1t {x : Nat} {X : Int} (hx : RV x X) (n : Nat) {mw : Nat} (hm : RV mw (mP n 1)) (bn bj bm : Nat) (w : World)
  (kn : w.cell? ⟨bn, 0, none⟩ = some (.int .i64 n)) (kj : w.cell? ⟨bj, 0, none⟩ = some (.int .i64 1)) (km : w.cell? ⟨bm, 0, none⟩ = some (.float .f64 mw)) :
  Calls Tryz.prog 80 #[.float .f64 x, .bool true, .pointer (some ⟨bn, 0, none⟩), .pointer (some ⟨bj, 0, none⟩), .pointer (some ⟨bm, 0, none⟩)] w fun e w' => RetR (stepsP n 1 X true) e ∧ ∃ q, w' = w.drewN q := by
 obtain ⟨R, hR0⟩ : ∃ R, R = stepsP n 1 X true := ⟨_, rfl⟩
 rw [← hR0]
 have hR := Lib.hid hR0
 clear hR0
 have hmul := fun w => run_fop (P := Tryz.prog) .mul rfl 31 x (fz n) w
 have hadd := fun s w => run_fop (P := Tryz.prog) .add rfl 31 s 4607182418800017408 w
 have hsub := fun s w => run_fop (P := Tryz.prog) .sub rfl 31 s 4607182418800017408 w
 have hquo := fun s w => run_fop (P := Tryz.prog) .quo rfl 31 s mw w
 have kn' : ∀ q, (w.drewN q).cell? ⟨bn, 0, none⟩ = some (.int .i64 n) := fun _ => kn
 have kj' : ∀ q, (w.drewN q).cell? ⟨bj, 0, none⟩ = some (.int .i64 1) := fun _ => kj
 have km' : ∀ q, (w.drewN q).cell? ⟨bm, 0, none⟩ = some (.float .f64 mw) := fun _ => km
 have hfz : floatOfInt .f64 (n : Int) = fz n := rfl
 have FL := Lib.hid (fun (p : Nat) (P : Int) (h : RV p P) (w : World) => eFloor h w)
 have HP := Lib.hid (fun w => RV.fop .mul hx (fz_RV n) w)
 have HX := Lib.hid hx
 have HM := Lib.hid hm
 clear hx hm
 go_enter Tryz.func80, Tryz.ntmps80
 go_upto_region 3 with (go_at_call 81; refine (FL.out _ _ (HP.out _) _).mono ?_; rintro e w1 ⟨⟨r, rfl, hr⟩, q, rfl⟩; have HR := Lib.hid hr; clear hr)
 have HI := Lib.hid (fun w => isI_infP (HP.out w))
 have C82 := Lib.hid (fun w w2 => c130 (fop .mul x (fz n) w) w2 (HP.out w).1)
 have sA : stA n 1 X = opP .add (flP (opP .mul X (iP n))) (iP 1) := by unfold stA; rw [if_pos (by decide)]
 cases bI : infP (opP .mul X (iP n)) <;> cases bE : feqP (flP (opP .mul X (iP n))) (opP .mul X (iP n))
 ·rw [bI] at HI
  go_upto_region 7 with (first
   | (go_at_call 82; refine (C82.out _ _).mono ?_; rw [HI.out]; rintro e w1 ⟨rfl, rfl⟩)
   | (go_at_call 81; refine (FL.out _ _ (HP.out _) _).mono ?_; rintro e w1 ⟨⟨r2, rfl, hr⟩, q2, rfl⟩; have E := RV.eq_ hr (HP.out w); rw [bE] at E; clear hr))
  generalize hs : fop .add r 4607182418800017408 _ = s
  have HS : Hid (RV s (stB n 1 X true)) := Lib.hid (by rw [← hs]; unfold stB; rw [if_neg (fun h => by rw [bI, bE] at h; simp at h), sA]; exact RV.fop .add HR.out one_RV _)
  clear hs HI C82 sA bI bE
  refine wp_gen1 (fun wx => ∃ q, wx = w.drewN q) ⟨_, rfl⟩ ?_
  rintro wx ⟨q9, rfl⟩
  have ST : Hid (stepsP n 1 X true = opP .quo (if fleP X (iP 1) = true ∧ fltP (mP n 1) (if fleP 0 X = true ∧ fltP (stB n 1 X true) 0 = true then 0 else stB n 1 X true) = true then mP n 1 else (if fleP 0 X = true ∧ fltP (stB n 1 X true) 0 = true then 0 else stB n 1 X true)) (mP n 1)) := Lib.hid rfl
  obtain ⟨S, hS⟩ : ∃ S, S = stB n 1 X true := ⟨_, rfl⟩
  rw [← hS] at HS ST
  rw [← hR.out] at ST
  have c1 := RV.ge HX.out zero_RV
  have c2 := RV.lt HS.out zero_RV
  have c3 := RV.le HX.out one_RV
  have c4 := RV.gt HS.out HM.out
  have c5 := RV.gt zero_RV HM.out
  have HQ := Lib.hid (fun w => RV.fop .quo HS.out HM.out w)
  have H0 := Lib.hid (fun w => RV.fop .quo zero_RV HM.out w)
  have H1 := Lib.hid (fun w => RV.fop .quo HM.out HM.out w)
  clear hmul hadd hsub hS hR
  cases b1 : fleP 0 X <;> cases b2 : fltP S 0 <;> cases b3 : fleP X (iP 1) <;> cases b4 : fltP (mP n 1) S <;> cases b5 : fltP (mP n 1) 0
  all_goals
   rw [b1] at c1
   rw [b2] at c2
   rw [b3] at c3
   rw [b4] at c4
   rw [b5] at c5
   have HB := Lib.hid (And.intro b1 (And.intro b2 (And.intro b3 (And.intro b4 b5))))
   clear b1 b2 b3 b4 b5
   go_wp2
   go_ret
   refine ⟨⟨_, rfl, ?_⟩, _, rfl⟩
   obtain ⟨b1, b2, b3, b4, b5⟩ := HB.out
   rw [ST.out]
   simp only [b1, b2, b3, b4, b5, Bool.false_eq_true, false_and, and_false, and_self, if_true, if_false]
   first | exact HQ.out _ | exact H0.out _ | exact H1.out _
 ·rw [bI] at HI
  go_upto_region 7 with (first
   | (go_at_call 82; refine (C82.out _ _).mono ?_; rw [HI.out]; rintro e w1 ⟨rfl, rfl⟩)
   | (go_at_call 81; refine (FL.out _ _ (HP.out _) _).mono ?_; rintro e w1 ⟨⟨r2, rfl, hr⟩, q2, rfl⟩; have E := RV.eq_ hr (HP.out w); rw [bE] at E; clear hr))
  generalize hs : fop .sub (fop .add r 4607182418800017408 _) 4607182418800017408 _ = s
  have HS : Hid (RV s (stB n 1 X true)) := Lib.hid (by rw [← hs]; unfold stB; rw [if_pos ⟨rfl, bI, bE⟩, sA]; exact RV.fop .sub (RV.fop .add HR.out one_RV _) one_RV _)
  clear hs HI C82 sA bI bE
  refine wp_gen1 (fun wx => ∃ q, wx = w.drewN q) ⟨_, rfl⟩ ?_
  rintro wx ⟨q9, rfl⟩
  have ST : Hid (stepsP n 1 X true = opP .quo (if fleP X (iP 1) = true ∧ fltP (mP n 1) (if fleP 0 X = true ∧ fltP (stB n 1 X true) 0 = true then 0 else stB n 1 X true) = true then mP n 1 else (if fleP 0 X = true ∧ fltP (stB n 1 X true) 0 = true then 0 else stB n 1 X true)) (mP n 1)) := Lib.hid rfl
  obtain ⟨S, hS⟩ : ∃ S, S = stB n 1 X true := ⟨_, rfl⟩
  rw [← hS] at HS ST
  rw [← hR.out] at ST
  have c1 := RV.ge HX.out zero_RV
  have c2 := RV.lt HS.out zero_RV
  have c3 := RV.le HX.out one_RV
  have c4 := RV.gt HS.out HM.out
  have c5 := RV.gt zero_RV HM.out
  have HQ := Lib.hid (fun w => RV.fop .quo HS.out HM.out w)
  have H0 := Lib.hid (fun w => RV.fop .quo zero_RV HM.out w)
  have H1 := Lib.hid (fun w => RV.fop .quo HM.out HM.out w)
  clear hmul hadd hsub hS hR
  cases b1 : fleP 0 X <;> cases b2 : fltP S 0 <;> cases b3 : fleP X (iP 1) <;> cases b4 : fltP (mP n 1) S <;> cases b5 : fltP (mP n 1) 0
  all_goals
   rw [b1] at c1
   rw [b2] at c2
   rw [b3] at c3
   rw [b4] at c4
   rw [b5] at c5
   have HB := Lib.hid (And.intro b1 (And.intro b2 (And.intro b3 (And.intro b4 b5))))
   clear b1 b2 b3 b4 b5
   go_wp2
   go_ret
   refine ⟨⟨_, rfl, ?_⟩, _, rfl⟩
   obtain ⟨b1, b2, b3, b4, b5⟩ := HB.out
   rw [ST.out]
   simp only [b1, b2, b3, b4, b5, Bool.false_eq_true, false_and, and_false, and_self, if_true, if_false]
   first | exact HQ.out _ | exact H0.out _ | exact H1.out _
 ·rw [bI] at HI
  go_upto_region 7 with (first
   | (go_at_call 82; refine (C82.out _ _).mono ?_; rw [HI.out]; rintro e w1 ⟨rfl, rfl⟩)
   | (go_at_call 81; refine (FL.out _ _ (HP.out _) _).mono ?_; rintro e w1 ⟨⟨r2, rfl, hr⟩, q2, rfl⟩; have E := RV.eq_ hr (HP.out w); rw [bE] at E; clear hr))
  generalize hs : fop .add r 4607182418800017408 _ = s
  have HS : Hid (RV s (stB n 1 X true)) := Lib.hid (by rw [← hs]; unfold stB; rw [if_neg (fun h => by rw [bI, bE] at h; simp at h), sA]; exact RV.fop .add HR.out one_RV _)
  clear hs HI C82 sA bI bE
  refine wp_gen1 (fun wx => ∃ q, wx = w.drewN q) ⟨_, rfl⟩ ?_
  rintro wx ⟨q9, rfl⟩
  have ST : Hid (stepsP n 1 X true = opP .quo (if fleP X (iP 1) = true ∧ fltP (mP n 1) (if fleP 0 X = true ∧ fltP (stB n 1 X true) 0 = true then 0 else stB n 1 X true) = true then mP n 1 else (if fleP 0 X = true ∧ fltP (stB n 1 X true) 0 = true then 0 else stB n 1 X true)) (mP n 1)) := Lib.hid rfl
  obtain ⟨S, hS⟩ : ∃ S, S = stB n 1 X true := ⟨_, rfl⟩
  rw [← hS] at HS ST
  rw [← hR.out] at ST
  have c1 := RV.ge HX.out zero_RV
  have c2 := RV.lt HS.out zero_RV
  have c3 := RV.le HX.out one_RV
  have c4 := RV.gt HS.out HM.out
  have c5 := RV.gt zero_RV HM.out
  have HQ := Lib.hid (fun w => RV.fop .quo HS.out HM.out w)
  have H0 := Lib.hid (fun w => RV.fop .quo zero_RV HM.out w)
  have H1 := Lib.hid (fun w => RV.fop .quo HM.out HM.out w)
  clear hmul hadd hsub hS hR
  cases b1 : fleP 0 X <;> cases b2 : fltP S 0 <;> cases b3 : fleP X (iP 1) <;> cases b4 : fltP (mP n 1) S <;> cases b5 : fltP (mP n 1) 0
  all_goals
   rw [b1] at c1
   rw [b2] at c2
   rw [b3] at c3
   rw [b4] at c4
   rw [b5] at c5
   have HB := Lib.hid (And.intro b1 (And.intro b2 (And.intro b3 (And.intro b4 b5))))
   clear b1 b2 b3 b4 b5
   go_wp2
   go_ret
   refine ⟨⟨_, rfl, ?_⟩, _, rfl⟩
   obtain ⟨b1, b2, b3, b4, b5⟩ := HB.out
   rw [ST.out]
   simp only [b1, b2, b3, b4, b5, Bool.false_eq_true, false_and, and_false, and_self, if_true, if_false]
   first | exact HQ.out _ | exact H0.out _ | exact H1.out _
 ·rw [bI] at HI
  go_upto_region 7 with (first
   | (go_at_call 82; refine (C82.out _ _).mono ?_; rw [HI.out]; rintro e w1 ⟨rfl, rfl⟩)
   | (go_at_call 81; refine (FL.out _ _ (HP.out _) _).mono ?_; rintro e w1 ⟨⟨r2, rfl, hr⟩, q2, rfl⟩; have E := RV.eq_ hr (HP.out w); rw [bE] at E; clear hr))
  generalize hs : fop .add r 4607182418800017408 _ = s
  have HS : Hid (RV s (stB n 1 X true)) := Lib.hid (by rw [← hs]; unfold stB; rw [if_neg (fun h => by rw [bI, bE] at h; simp at h), sA]; exact RV.fop .add HR.out one_RV _)
  clear hs HI C82 sA bI bE
  refine wp_gen1 (fun wx => ∃ q, wx = w.drewN q) ⟨_, rfl⟩ ?_
  rintro wx ⟨q9, rfl⟩
  have ST : Hid (stepsP n 1 X true = opP .quo (if fleP X (iP 1) = true ∧ fltP (mP n 1) (if fleP 0 X = true ∧ fltP (stB n 1 X true) 0 = true then 0 else stB n 1 X true) = true then mP n 1 else (if fleP 0 X = true ∧ fltP (stB n 1 X true) 0 = true then 0 else stB n 1 X true)) (mP n 1)) := Lib.hid rfl
  obtain ⟨S, hS⟩ : ∃ S, S = stB n 1 X true := ⟨_, rfl⟩
  rw [← hS] at HS ST
  rw [← hR.out] at ST
  have c1 := RV.ge HX.out zero_RV
  have c2 := RV.lt HS.out zero_RV
  have c3 := RV.le HX.out one_RV
  have c4 := RV.gt HS.out HM.out
  have c5 := RV.gt zero_RV HM.out
  have HQ := Lib.hid (fun w => RV.fop .quo HS.out HM.out w)
  have H0 := Lib.hid (fun w => RV.fop .quo zero_RV HM.out w)
  have H1 := Lib.hid (fun w => RV.fop .quo HM.out HM.out w)
  clear hmul hadd hsub hS hR
  cases b1 : fleP 0 X <;> cases b2 : fltP S 0 <;> cases b3 : fleP X (iP 1) <;> cases b4 : fltP (mP n 1) S <;> cases b5 : fltP (mP n 1) 0
  all_goals
   rw [b1] at c1
   rw [b2] at c2
   rw [b3] at c3
   rw [b4] at c4
   rw [b5] at c5
   have HB := Lib.hid (And.intro b1 (And.intro b2 (And.intro b3 (And.intro b4 b5))))
   clear b1 b2 b3 b4 b5
   go_wp2
   go_ret
   refine ⟨⟨_, rfl, ?_⟩, _, rfl⟩
   obtain ⟨b1, b2, b3, b4, b5⟩ := HB.out
   rw [ST.out]
   simp only [b1, b2, b3, b4, b5, Bool.false_eq_true, false_and, and_false, and_self, if_true, if_false]
   first | exact HQ.out _ | exact H0.out _ | exact H1.out _
set_option maxRecDepth 100000 in
set_option maxHeartbeats 4000000 in
theorem k80_2f {x : Nat} {X : Int} (hx : RV x X) (n : Nat) {mw : Nat} (hm : RV mw (mP n 2)) (bn bj bm : Nat) (w : World)
  (kn : w.cell? ⟨bn, 0, none⟩ = some (.int .i64 n)) (kj : w.cell? ⟨bj, 0, none⟩ = some (.int .i64 2)) (km : w.cell? ⟨bm, 0, none⟩ = some (.float .f64 mw)) :
  Calls Tryz.prog 80 #[.float .f64 x, .bool false, .pointer (some ⟨bn, 0, none⟩), .pointer (some ⟨bj, 0, none⟩), .pointer (some ⟨bm, 0, none⟩)] w fun e w' => RetR (stepsP n 2 X false) e ∧ ∃ q, w' = w.drewN q := by
 obtain ⟨R, hR0⟩ : ∃ R, R = stepsP n 2 X false := ⟨_, rfl⟩
 rw [← hR0]
 have hR := Lib.hid hR0
 clear hR0
 have hmul := fun w => run_fop (P := Tryz.prog) .mul rfl 31 x (fz n) w
 have hadd := fun s w => run_fop (P := Tryz.prog) .add rfl 31 s 4607182418800017408 w
 have hsub := fun s w => run_fop (P := Tryz.prog) .sub rfl 31 s 4607182418800017408 w
 have hquo := fun s w => run_fop (P := Tryz.prog) .quo rfl 31 s mw w
 have kn' : ∀ q, (w.drewN q).cell? ⟨bn, 0, none⟩ = some (.int .i64 n) := fun _ => kn
 have kj' : ∀ q, (w.drewN q).cell? ⟨bj, 0, none⟩ = some (.int .i64 2) := fun _ => kj
 have km' : ∀ q, (w.drewN q).cell? ⟨bm, 0, none⟩ = some (.float .f64 mw) := fun _ => km
 have hfz : floatOfInt .f64 (n : Int) = fz n := rfl
 have FL := Lib.hid (fun (p : Nat) (P : Int) (h : RV p P) (w : World) => eFloor h w)
 have HP := Lib.hid (fun w => RV.fop .mul hx (fz_RV n) w)
 have HX := Lib.hid hx
 have HM := Lib.hid hm
 clear hx hm
 go_enter Tryz.func80, Tryz.ntmps80
 go_upto_region 3 with (go_at_call 81; refine (FL.out _ _ (HP.out _) _).mono ?_; rintro e w1 ⟨⟨r, rfl, hr⟩, q, rfl⟩; have HR := Lib.hid hr; clear hr)
 go_upto_region 7 with fail
 have HS : Hid (RV r (stB n 2 X false)) := Lib.hid (by unfold stB stA; rw [if_neg (fun h => by cases h.1), if_neg (by decide)]; exact HR.out)
 refine wp_gen1 (fun wx => ∃ q, wx = w.drewN q) ⟨_, rfl⟩ ?_
 rintro wx ⟨q9, rfl⟩
 have ST : Hid (stepsP n 2 X false = opP .quo (if fleP X (iP 1) = true ∧ fltP (mP n 2) (if fleP 0 X = true ∧ fltP (stB n 2 X false) 0 = true then 0 else stB n 2 X false) = true then mP n 2 else (if fleP 0 X = true ∧ fltP (stB n 2 X false) 0 = true then 0 else stB n 2 X false)) (mP n 2)) := Lib.hid rfl
 obtain ⟨S, hS⟩ : ∃ S, S = stB n 2 X false := ⟨_, rfl⟩
 rw [← hS] at HS ST
 rw [← hR.out] at ST
 have c1 := RV.ge HX.out zero_RV
 have c2 := RV.lt HS.out zero_RV
 have c3 := RV.le HX.out one_RV
 have c4 := RV.gt HS.out HM.out
 have c5 := RV.gt zero_RV HM.out
 have HQ := Lib.hid (fun w => RV.fop .quo HS.out HM.out w)
 have H0 := Lib.hid (fun w => RV.fop .quo zero_RV HM.out w)
 have H1 := Lib.hid (fun w => RV.fop .quo HM.out HM.out w)
 clear hmul hadd hsub hS hR
 cases b1 : fleP 0 X <;> cases b2 : fltP S 0 <;> cases b3 : fleP X (iP 1) <;> cases b4 : fltP (mP n 2) S <;> cases b5 : fltP (mP n 2) 0
 all_goals
  rw [b1] at c1
  rw [b2] at c2
  rw [b3] at c3
  rw [b4] at c4
  rw [b5] at c5
  have HB := Lib.hid (And.intro b1 (And.intro b2 (And.intro b3 (And.intro b4 b5))))
  clear b1 b2 b3 b4 b5
  go_wp2
  go_ret
  refine ⟨⟨_, rfl, ?_⟩, _, rfl⟩
  obtain ⟨b1, b2, b3, b4, b5⟩ := HB.out
  rw [ST.out]
  simp only [b1, b2, b3, b4, b5, Bool.false_eq_true, false_and, and_false, and_self, if_true, if_false]
  first | exact HQ.out _ | exact H0.out _ | exact H1.out _
set_option maxRecDepth 100000 in
set_option maxHeartbeats 4000000 in
theorem k80_2t {x : Nat} {X : Int} (hx : RV x X) (n : Nat) {mw : Nat} (hm : RV mw (mP n 2)) (bn bj bm : Nat) (w : World)
  (kn : w.cell? ⟨bn, 0, none⟩ = some (.int .i64 n)) (kj : w.cell? ⟨bj, 0, none⟩ = some (.int .i64 2)) (km : w.cell? ⟨bm, 0, none⟩ = some (.float .f64 mw)) :
  Calls Tryz.prog 80 #[.float .f64 x, .bool true, .pointer (some ⟨bn, 0, none⟩), .pointer (some ⟨bj, 0, none⟩), .pointer (some ⟨bm, 0, none⟩)] w fun e w' => RetR (stepsP n 2 X true) e ∧ ∃ q, w' = w.drewN q := by
 obtain ⟨R, hR0⟩ : ∃ R, R = stepsP n 2 X true := ⟨_, rfl⟩
 rw [← hR0]
 have hR := Lib.hid hR0
 clear hR0
 have hmul := fun w => run_fop (P := Tryz.prog) .mul rfl 31 x (fz n) w
 have hadd := fun s w => run_fop (P := Tryz.prog) .add rfl 31 s 4607182418800017408 w
 have hsub := fun s w => run_fop (P := Tryz.prog) .sub rfl 31 s 4607182418800017408 w
 have hquo := fun s w => run_fop (P := Tryz.prog) .quo rfl 31 s mw w
 have kn' : ∀ q, (w.drewN q).cell? ⟨bn, 0, none⟩ = some (.int .i64 n) := fun _ => kn
 have kj' : ∀ q, (w.drewN q).cell? ⟨bj, 0, none⟩ = some (.int .i64 2) := fun _ => kj
 have km' : ∀ q, (w.drewN q).cell? ⟨bm, 0, none⟩ = some (.float .f64 mw) := fun _ => km
 have hfz : floatOfInt .f64 (n : Int) = fz n := rfl
 have FL := Lib.hid (fun (p : Nat) (P : Int) (h : RV p P) (w : World) => eFloor h w)
 have HP := Lib.hid (fun w => RV.fop .mul hx (fz_RV n) w)
 have HX := Lib.hid hx
 have HM := Lib.hid hm
 clear hx hm
 go_enter Tryz.func80, Tryz.ntmps80
 go_upto_region 3 with (go_at_call 81; refine (FL.out _ _ (HP.out _) _).mono ?_; rintro e w1 ⟨⟨r, rfl, hr⟩, q, rfl⟩; have HR := Lib.hid hr; clear hr)
 have HI := Lib.hid (fun w => isI_infP (HP.out w))
 have C82 := Lib.hid (fun w w2 => c130 (fop .mul x (fz n) w) w2 (HP.out w).1)
 have sA : stA n 2 X = flP (opP .mul X (iP n)) := by unfold stA; rw [if_neg (by decide)]
 cases bI : infP (opP .mul X (iP n)) <;> cases bE : feqP (flP (opP .mul X (iP n))) (opP .mul X (iP n))
 ·rw [bI] at HI
  go_upto_region 7 with (first
   | (go_at_call 82; refine (C82.out _ _).mono ?_; rw [HI.out]; rintro e w1 ⟨rfl, rfl⟩)
   | (go_at_call 81; refine (FL.out _ _ (HP.out _) _).mono ?_; rintro e w1 ⟨⟨r2, rfl, hr⟩, q2, rfl⟩; have E := RV.eq_ hr (HP.out w); rw [bE] at E; clear hr))
  have HS : Hid (RV r (stB n 2 X true)) := Lib.hid (by unfold stB; rw [if_neg (fun h => by rw [bI, bE] at h; simp at h), sA]; exact HR.out)
  clear HI C82 sA bI bE
  refine wp_gen1 (fun wx => ∃ q, wx = w.drewN q) ⟨_, rfl⟩ ?_
  rintro wx ⟨q9, rfl⟩
  have ST : Hid (stepsP n 2 X true = opP .quo (if fleP X (iP 1) = true ∧ fltP (mP n 2) (if fleP 0 X = true ∧ fltP (stB n 2 X true) 0 = true then 0 else stB n 2 X true) = true then mP n 2 else (if fleP 0 X = true ∧ fltP (stB n 2 X true) 0 = true then 0 else stB n 2 X true)) (mP n 2)) := Lib.hid rfl
  obtain ⟨S, hS⟩ : ∃ S, S = stB n 2 X true := ⟨_, rfl⟩
  rw [← hS] at HS ST
  rw [← hR.out] at ST
  have c1 := RV.ge HX.out zero_RV
  have c2 := RV.lt HS.out zero_RV
  have c3 := RV.le HX.out one_RV
  have c4 := RV.gt HS.out HM.out
  have c5 := RV.gt zero_RV HM.out
  have HQ := Lib.hid (fun w => RV.fop .quo HS.out HM.out w)
  have H0 := Lib.hid (fun w => RV.fop .quo zero_RV HM.out w)
  have H1 := Lib.hid (fun w => RV.fop .quo HM.out HM.out w)
  clear hmul hadd hsub hS hR
  cases b1 : fleP 0 X <;> cases b2 : fltP S 0 <;> cases b3 : fleP X (iP 1) <;> cases b4 : fltP (mP n 2) S <;> cases b5 : fltP (mP n 2) 0
  all_goals
   rw [b1] at c1
   rw [b2] at c2
   rw [b3] at c3
   rw [b4] at c4
   rw [b5] at c5
   have HB := Lib.hid (And.intro b1 (And.intro b2 (And.intro b3 (And.intro b4 b5))))
   clear b1 b2 b3 b4 b5
   go_wp2
   go_ret
   refine ⟨⟨_, rfl, ?_⟩, _, rfl⟩
   obtain ⟨b1, b2, b3, b4, b5⟩ := HB.out
   rw [ST.out]
   simp only [b1, b2, b3, b4, b5, Bool.false_eq_true, false_and, and_false, and_self, if_true, if_false]
   first | exact HQ.out _ | exact H0.out _ | exact H1.out _
 ·rw [bI] at HI
  go_upto_region 7 with (first
   | (go_at_call 82; refine (C82.out _ _).mono ?_; rw [HI.out]; rintro e w1 ⟨rfl, rfl⟩)
   | (go_at_call 81; refine (FL.out _ _ (HP.out _) _).mono ?_; rintro e w1 ⟨⟨r2, rfl, hr⟩, q2, rfl⟩; have E := RV.eq_ hr (HP.out w); rw [bE] at E; clear hr))
  generalize hs : fop .sub r 4607182418800017408 _ = s
  have HS : Hid (RV s (stB n 2 X true)) := Lib.hid (by rw [← hs]; unfold stB; rw [if_pos ⟨rfl, bI, bE⟩, sA]; exact RV.fop .sub (HR.out) one_RV _)
  clear hs HI C82 sA bI bE
  refine wp_gen1 (fun wx => ∃ q, wx = w.drewN q) ⟨_, rfl⟩ ?_
  rintro wx ⟨q9, rfl⟩
  have ST : Hid (stepsP n 2 X true = opP .quo (if fleP X (iP 1) = true ∧ fltP (mP n 2) (if fleP 0 X = true ∧ fltP (stB n 2 X true) 0 = true then 0 else stB n 2 X true) = true then mP n 2 else (if fleP 0 X = true ∧ fltP (stB n 2 X true) 0 = true then 0 else stB n 2 X true)) (mP n 2)) := Lib.hid rfl
  obtain ⟨S, hS⟩ : ∃ S, S = stB n 2 X true := ⟨_, rfl⟩
  rw [← hS] at HS ST
  rw [← hR.out] at ST
  have c1 := RV.ge HX.out zero_RV
  have c2 := RV.lt HS.out zero_RV
  have c3 := RV.le HX.out one_RV
  have c4 := RV.gt HS.out HM.out
  have c5 := RV.gt zero_RV HM.out
  have HQ := Lib.hid (fun w => RV.fop .quo HS.out HM.out w)
  have H0 := Lib.hid (fun w => RV.fop .quo zero_RV HM.out w)
  have H1 := Lib.hid (fun w => RV.fop .quo HM.out HM.out w)
  clear hmul hadd hsub hS hR
  cases b1 : fleP 0 X <;> cases b2 : fltP S 0 <;> cases b3 : fleP X (iP 1) <;> cases b4 : fltP (mP n 2) S <;> cases b5 : fltP (mP n 2) 0
  all_goals
   rw [b1] at c1
   rw [b2] at c2
   rw [b3] at c3
   rw [b4] at c4
   rw [b5] at c5
   have HB := Lib.hid (And.intro b1 (And.intro b2 (And.intro b3 (And.intro b4 b5))))
   clear b1 b2 b3 b4 b5
   go_wp2
   go_ret
   refine ⟨⟨_, rfl, ?_⟩, _, rfl⟩
   obtain ⟨b1, b2, b3, b4, b5⟩ := HB.out
   rw [ST.out]
   simp only [b1, b2, b3, b4, b5, Bool.false_eq_true, false_and, and_false, and_self, if_true, if_false]
   first | exact HQ.out _ | exact H0.out _ | exact H1.out _
 ·rw [bI] at HI
  go_upto_region 7 with (first
   | (go_at_call 82; refine (C82.out _ _).mono ?_; rw [HI.out]; rintro e w1 ⟨rfl, rfl⟩)
   | (go_at_call 81; refine (FL.out _ _ (HP.out _) _).mono ?_; rintro e w1 ⟨⟨r2, rfl, hr⟩, q2, rfl⟩; have E := RV.eq_ hr (HP.out w); rw [bE] at E; clear hr))
  have HS : Hid (RV r (stB n 2 X true)) := Lib.hid (by unfold stB; rw [if_neg (fun h => by rw [bI, bE] at h; simp at h), sA]; exact HR.out)
  clear HI C82 sA bI bE
  refine wp_gen1 (fun wx => ∃ q, wx = w.drewN q) ⟨_, rfl⟩ ?_
  rintro wx ⟨q9, rfl⟩
  have ST : Hid (stepsP n 2 X true = opP .quo (if fleP X (iP 1) = true ∧ fltP (mP n 2) (if fleP 0 X = true ∧ fltP (stB n 2 X true) 0 = true then 0 else stB n 2 X true) = true then mP n 2 else (if fleP 0 X = true ∧ fltP (stB n 2 X true) 0 = true then 0 else stB n 2 X true)) (mP n 2)) := Lib.hid rfl
  obtain ⟨S, hS⟩ : ∃ S, S = stB n 2 X true := ⟨_, rfl⟩
  rw [← hS] at HS ST
  rw [← hR.out] at ST
  have c1 := RV.ge HX.out zero_RV
  have c2 := RV.lt HS.out zero_RV
  have c3 := RV.le HX.out one_RV
  have c4 := RV.gt HS.out HM.out
  have c5 := RV.gt zero_RV HM.out
  have HQ := Lib.hid (fun w => RV.fop .quo HS.out HM.out w)
  have H0 := Lib.hid (fun w => RV.fop .quo zero_RV HM.out w)
  have H1 := Lib.hid (fun w => RV.fop .quo HM.out HM.out w)
  clear hmul hadd hsub hS hR
  cases b1 : fleP 0 X <;> cases b2 : fltP S 0 <;> cases b3 : fleP X (iP 1) <;> cases b4 : fltP (mP n 2) S <;> cases b5 : fltP (mP n 2) 0
  all_goals
   rw [b1] at c1
   rw [b2] at c2
   rw [b3] at c3
   rw [b4] at c4
   rw [b5] at c5
   have HB := Lib.hid (And.intro b1 (And.intro b2 (And.intro b3 (And.intro b4 b5))))
   clear b1 b2 b3 b4 b5
   go_wp2
   go_ret
   refine ⟨⟨_, rfl, ?_⟩, _, rfl⟩
   obtain ⟨b1, b2, b3, b4, b5⟩ := HB.out
   rw [ST.out]
   simp only [b1, b2, b3, b4, b5, Bool.false_eq_true, false_and, and_false, and_self, if_true, if_false]
   first | exact HQ.out _ | exact H0.out _ | exact H1.out _
 ·rw [bI] at HI
  go_upto_region 7 with (first
   | (go_at_call 82; refine (C82.out _ _).mono ?_; rw [HI.out]; rintro e w1 ⟨rfl, rfl⟩)
   | (go_at_call 81; refine (FL.out _ _ (HP.out _) _).mono ?_; rintro e w1 ⟨⟨r2, rfl, hr⟩, q2, rfl⟩; have E := RV.eq_ hr (HP.out w); rw [bE] at E; clear hr))
  have HS : Hid (RV r (stB n 2 X true)) := Lib.hid (by unfold stB; rw [if_neg (fun h => by rw [bI, bE] at h; simp at h), sA]; exact HR.out)
  clear HI C82 sA bI bE
  refine wp_gen1 (fun wx => ∃ q, wx = w.drewN q) ⟨_, rfl⟩ ?_
  rintro wx ⟨q9, rfl⟩
  have ST : Hid (stepsP n 2 X true = opP .quo (if fleP X (iP 1) = true ∧ fltP (mP n 2) (if fleP 0 X = true ∧ fltP (stB n 2 X true) 0 = true then 0 else stB n 2 X true) = true then mP n 2 else (if fleP 0 X = true ∧ fltP (stB n 2 X true) 0 = true then 0 else stB n 2 X true)) (mP n 2)) := Lib.hid rfl
  obtain ⟨S, hS⟩ : ∃ S, S = stB n 2 X true := ⟨_, rfl⟩
  rw [← hS] at HS ST
  rw [← hR.out] at ST
  have c1 := RV.ge HX.out zero_RV
  have c2 := RV.lt HS.out zero_RV
  have c3 := RV.le HX.out one_RV
  have c4 := RV.gt HS.out HM.out
  have c5 := RV.gt zero_RV HM.out
  have HQ := Lib.hid (fun w => RV.fop .quo HS.out HM.out w)
  have H0 := Lib.hid (fun w => RV.fop .quo zero_RV HM.out w)
  have H1 := Lib.hid (fun w => RV.fop .quo HM.out HM.out w)
  clear hmul hadd hsub hS hR
  cases b1 : fleP 0 X <;> cases b2 : fltP S 0 <;> cases b3 : fleP X (iP 1) <;> cases b4 : fltP (mP n 2) S <;> cases b5 : fltP (mP n 2) 0
  all_goals
   rw [b1] at c1
   rw [b2] at c2
   rw [b3] at c3
   rw [b4] at c4
   rw [b5] at c5
   have HB := Lib.hid (And.intro b1 (And.intro b2 (And.intro b3 (And.intro b4 b5))))
   clear b1 b2 b3 b4 b5
   go_wp2
   go_ret
   refine ⟨⟨_, rfl, ?_⟩, _, rfl⟩
   obtain ⟨b1, b2, b3, b4, b5⟩ := HB.out
   rw [ST.out]
   simp only [b1, b2, b3, b4, b5, Bool.false_eq_true, false_and, and_false, and_self, if_true, if_false]
   first | exact HQ.out _ | exact H0.out _ | exact H1.out _
set_option maxRecDepth 100000 in
set_option maxHeartbeats 4000000 in
theorem k80_3f {x : Nat} {X : Int} (hx : RV x X) (n : Nat) {mw : Nat} (hm : RV mw (mP n 3)) (bn bj bm : Nat) (w : World)
  (kn : w.cell? ⟨bn, 0, none⟩ = some (.int .i64 n)) (kj : w.cell? ⟨bj, 0, none⟩ = some (.int .i64 3)) (km : w.cell? ⟨bm, 0, none⟩ = some (.float .f64 mw)) :
  Calls Tryz.prog 80 #[.float .f64 x, .bool false, .pointer (some ⟨bn, 0, none⟩), .pointer (some ⟨bj, 0, none⟩), .pointer (some ⟨bm, 0, none⟩)] w fun e w' => RetR (stepsP n 3 X false) e ∧ ∃ q, w' = w.drewN q := by
 obtain ⟨R, hR0⟩ : ∃ R, R = stepsP n 3 X false := ⟨_, rfl⟩
 rw [← hR0]
 have hR := Lib.hid hR0
 clear hR0
 have hmul := fun w => run_fop (P := Tryz.prog) .mul rfl 31 x (fz n) w
 have hadd := fun s w => run_fop (P := Tryz.prog) .add rfl 31 s 4607182418800017408 w
 have hsub := fun s w => run_fop (P := Tryz.prog) .sub rfl 31 s 4607182418800017408 w
 have hquo := fun s w => run_fop (P := Tryz.prog) .quo rfl 31 s mw w
 have kn' : ∀ q, (w.drewN q).cell? ⟨bn, 0, none⟩ = some (.int .i64 n) := fun _ => kn
 have kj' : ∀ q, (w.drewN q).cell? ⟨bj, 0, none⟩ = some (.int .i64 3) := fun _ => kj
 have km' : ∀ q, (w.drewN q).cell? ⟨bm, 0, none⟩ = some (.float .f64 mw) := fun _ => km
 have hfz : floatOfInt .f64 (n : Int) = fz n := rfl
 have FL := Lib.hid (fun (p : Nat) (P : Int) (h : RV p P) (w : World) => eFloor h w)
 have HP := Lib.hid (fun w => RV.fop .mul hx (fz_RV n) w)
 have HX := Lib.hid hx
 have HM := Lib.hid hm
 clear hx hm
 go_enter Tryz.func80, Tryz.ntmps80
 go_upto_region 3 with (go_at_call 81; refine (FL.out _ _ (HP.out _) _).mono ?_; rintro e w1 ⟨⟨r, rfl, hr⟩, q, rfl⟩; have HR := Lib.hid hr; clear hr)
 go_upto_region 7 with fail
 have HS : Hid (RV r (stB n 3 X false)) := Lib.hid (by unfold stB stA; rw [if_neg (fun h => by cases h.1), if_neg (by decide)]; exact HR.out)
 refine wp_gen1 (fun wx => ∃ q, wx = w.drewN q) ⟨_, rfl⟩ ?_
 rintro wx ⟨q9, rfl⟩
 have ST : Hid (stepsP n 3 X false = opP .quo (if fleP X (iP 1) = true ∧ fltP (mP n 3) (if fleP 0 X = true ∧ fltP (stB n 3 X false) 0 = true then 0 else stB n 3 X false) = true then mP n 3 else (if fleP 0 X = true ∧ fltP (stB n 3 X false) 0 = true then 0 else stB n 3 X false)) (mP n 3)) := Lib.hid rfl
 obtain ⟨S, hS⟩ : ∃ S, S = stB n 3 X false := ⟨_, rfl⟩
 rw [← hS] at HS ST
 rw [← hR.out] at ST
 have c1 := RV.ge HX.out zero_RV
 have c2 := RV.lt HS.out zero_RV
 have c3 := RV.le HX.out one_RV
 have c4 := RV.gt HS.out HM.out
 have c5 := RV.gt zero_RV HM.out
 have HQ := Lib.hid (fun w => RV.fop .quo HS.out HM.out w)
 have H0 := Lib.hid (fun w => RV.fop .quo zero_RV HM.out w)
 have H1 := Lib.hid (fun w => RV.fop .quo HM.out HM.out w)
 clear hmul hadd hsub hS hR
 cases b1 : fleP 0 X <;> cases b2 : fltP S 0 <;> cases b3 : fleP X (iP 1) <;> cases b4 : fltP (mP n 3) S <;> cases b5 : fltP (mP n 3) 0
 all_goals
  rw [b1] at c1
  rw [b2] at c2
  rw [b3] at c3
  rw [b4] at c4
  rw [b5] at c5
  have HB := Lib.hid (And.intro b1 (And.intro b2 (And.intro b3 (And.intro b4 b5))))
  clear b1 b2 b3 b4 b5
  go_wp2
  go_ret
  refine ⟨⟨_, rfl, ?_⟩, _, rfl⟩
  obtain ⟨b1, b2, b3, b4, b5⟩ := HB.out
  rw [ST.out]
  simp only [b1, b2, b3, b4, b5, Bool.false_eq_true, false_and, and_false, and_self, if_true, if_false]
  first | exact HQ.out _ | exact H0.out _ | exact H1.out _
set_option maxRecDepth 100000 in
set_option maxHeartbeats 4000000 in
theorem k80_3t {x : Nat} {X : Int} (hx : RV x X) (n : Nat) {mw : Nat} (hm : RV mw (mP n 3)) (bn bj bm : Nat) (w : World)
  (kn : w.cell? ⟨bn, 0, none⟩ = some (.int .i64 n)) (kj : w.cell? ⟨bj, 0, none⟩ = some (.int .i64 3)) (km : w.cell? ⟨bm, 0, none⟩ = some (.float .f64 mw)) :
  Calls Tryz.prog 80 #[.float .f64 x, .bool true, .pointer (some ⟨bn, 0, none⟩), .pointer (some ⟨bj, 0, none⟩), .pointer (some ⟨bm, 0, none⟩)] w fun e w' => RetR (stepsP n 3 X true) e ∧ ∃ q, w' = w.drewN q := by
 obtain ⟨R, hR0⟩ : ∃ R, R = stepsP n 3 X true := ⟨_, rfl⟩
 rw [← hR0]
 have hR := Lib.hid hR0
 clear hR0
 have hmul := fun w => run_fop (P := Tryz.prog) .mul rfl 31 x (fz n) w
 have hadd := fun s w => run_fop (P := Tryz.prog) .add rfl 31 s 4607182418800017408 w
 have hsub := fun s w => run_fop (P := Tryz.prog) .sub rfl 31 s 4607182418800017408 w
 have hquo := fun s w => run_fop (P := Tryz.prog) .quo rfl 31 s mw w
 have kn' : ∀ q, (w.drewN q).cell? ⟨bn, 0, none⟩ = some (.int .i64 n) := fun _ => kn
 have kj' : ∀ q, (w.drewN q).cell? ⟨bj, 0, none⟩ = some (.int .i64 3) := fun _ => kj
 have km' : ∀ q, (w.drewN q).cell? ⟨bm, 0, none⟩ = some (.float .f64 mw) := fun _ => km
 have hfz : floatOfInt .f64 (n : Int) = fz n := rfl
 have FL := Lib.hid (fun (p : Nat) (P : Int) (h : RV p P) (w : World) => eFloor h w)
 have HP := Lib.hid (fun w => RV.fop .mul hx (fz_RV n) w)
 have HX := Lib.hid hx
 have HM := Lib.hid hm
 clear hx hm
 go_enter Tryz.func80, Tryz.ntmps80
 go_upto_region 3 with (go_at_call 81; refine (FL.out _ _ (HP.out _) _).mono ?_; rintro e w1 ⟨⟨r, rfl, hr⟩, q, rfl⟩; have HR := Lib.hid hr; clear hr)
 have HI := Lib.hid (fun w => isI_infP (HP.out w))
 have C82 := Lib.hid (fun w w2 => c130 (fop .mul x (fz n) w) w2 (HP.out w).1)
 have sA : stA n 3 X = flP (opP .mul X (iP n)) := by unfold stA; rw [if_neg (by decide)]
 cases bI : infP (opP .mul X (iP n)) <;> cases bE : feqP (flP (opP .mul X (iP n))) (opP .mul X (iP n))
 ·rw [bI] at HI
  go_upto_region 7 with (first
   | (go_at_call 82; refine (C82.out _ _).mono ?_; rw [HI.out]; rintro e w1 ⟨rfl, rfl⟩)
   | (go_at_call 81; refine (FL.out _ _ (HP.out _) _).mono ?_; rintro e w1 ⟨⟨r2, rfl, hr⟩, q2, rfl⟩; have E := RV.eq_ hr (HP.out w); rw [bE] at E; clear hr))
  have HS : Hid (RV r (stB n 3 X true)) := Lib.hid (by unfold stB; rw [if_neg (fun h => by rw [bI, bE] at h; simp at h), sA]; exact HR.out)
  clear HI C82 sA bI bE
  refine wp_gen1 (fun wx => ∃ q, wx = w.drewN q) ⟨_, rfl⟩ ?_
  rintro wx ⟨q9, rfl⟩
  have ST : Hid (stepsP n 3 X true = opP .quo (if fleP X (iP 1) = true ∧ fltP (mP n 3) (if fleP 0 X = true ∧ fltP (stB n 3 X true) 0 = true then 0 else stB n 3 X true) = true then mP n 3 else (if fleP 0 X = true ∧ fltP (stB n 3 X true) 0 = true then 0 else stB n 3 X true)) (mP n 3)) := Lib.hid rfl
  obtain ⟨S, hS⟩ : ∃ S, S = stB n 3 X true := ⟨_, rfl⟩
  rw [← hS] at HS ST
  rw [← hR.out] at ST
  have c1 := RV.ge HX.out zero_RV
  have c2 := RV.lt HS.out zero_RV
  have c3 := RV.le HX.out one_RV
  have c4 := RV.gt HS.out HM.out
  have c5 := RV.gt zero_RV HM.out
  have HQ := Lib.hid (fun w => RV.fop .quo HS.out HM.out w)
  have H0 := Lib.hid (fun w => RV.fop .quo zero_RV HM.out w)
  have H1 := Lib.hid (fun w => RV.fop .quo HM.out HM.out w)
  clear hmul hadd hsub hS hR
  cases b1 : fleP 0 X <;> cases b2 : fltP S 0 <;> cases b3 : fleP X (iP 1) <;> cases b4 : fltP (mP n 3) S <;> cases b5 : fltP (mP n 3) 0
  all_goals
   rw [b1] at c1
   rw [b2] at c2
   rw [b3] at c3
   rw [b4] at c4
   rw [b5] at c5
   have HB := Lib.hid (And.intro b1 (And.intro b2 (And.intro b3 (And.intro b4 b5))))
   clear b1 b2 b3 b4 b5
   go_wp2
   go_ret
   refine ⟨⟨_, rfl, ?_⟩, _, rfl⟩
   obtain ⟨b1, b2, b3, b4, b5⟩ := HB.out
   rw [ST.out]
   simp only [b1, b2, b3, b4, b5, Bool.false_eq_true, false_and, and_false, and_self, if_true, if_false]
   first | exact HQ.out _ | exact H0.out _ | exact H1.out _
 ·rw [bI] at HI
  go_upto_region 7 with (first
   | (go_at_call 82; refine (C82.out _ _).mono ?_; rw [HI.out]; rintro e w1 ⟨rfl, rfl⟩)
   | (go_at_call 81; refine (FL.out _ _ (HP.out _) _).mono ?_; rintro e w1 ⟨⟨r2, rfl, hr⟩, q2, rfl⟩; have E := RV.eq_ hr (HP.out w); rw [bE] at E; clear hr))
  generalize hs : fop .sub r 4607182418800017408 _ = s
  have HS : Hid (RV s (stB n 3 X true)) := Lib.hid (by rw [← hs]; unfold stB; rw [if_pos ⟨rfl, bI, bE⟩, sA]; exact RV.fop .sub (HR.out) one_RV _)
  clear hs HI C82 sA bI bE
  refine wp_gen1 (fun wx => ∃ q, wx = w.drewN q) ⟨_, rfl⟩ ?_
  rintro wx ⟨q9, rfl⟩
  have ST : Hid (stepsP n 3 X true = opP .quo (if fleP X (iP 1) = true ∧ fltP (mP n 3) (if fleP 0 X = true ∧ fltP (stB n 3 X true) 0 = true then 0 else stB n 3 X true) = true then mP n 3 else (if fleP 0 X = true ∧ fltP (stB n 3 X true) 0 = true then 0 else stB n 3 X true)) (mP n 3)) := Lib.hid rfl
  obtain ⟨S, hS⟩ : ∃ S, S = stB n 3 X true := ⟨_, rfl⟩
  rw [← hS] at HS ST
  rw [← hR.out] at ST
  have c1 := RV.ge HX.out zero_RV
  have c2 := RV.lt HS.out zero_RV
  have c3 := RV.le HX.out one_RV
  have c4 := RV.gt HS.out HM.out
  have c5 := RV.gt zero_RV HM.out
  have HQ := Lib.hid (fun w => RV.fop .quo HS.out HM.out w)
  have H0 := Lib.hid (fun w => RV.fop .quo zero_RV HM.out w)
  have H1 := Lib.hid (fun w => RV.fop .quo HM.out HM.out w)
  clear hmul hadd hsub hS hR
  cases b1 : fleP 0 X <;> cases b2 : fltP S 0 <;> cases b3 : fleP X (iP 1) <;> cases b4 : fltP (mP n 3) S <;> cases b5 : fltP (mP n 3) 0
  all_goals
   rw [b1] at c1
   rw [b2] at c2
   rw [b3] at c3
   rw [b4] at c4
   rw [b5] at c5
   have HB := Lib.hid (And.intro b1 (And.intro b2 (And.intro b3 (And.intro b4 b5))))
   clear b1 b2 b3 b4 b5
   go_wp2
   go_ret
   refine ⟨⟨_, rfl, ?_⟩, _, rfl⟩
   obtain ⟨b1, b2, b3, b4, b5⟩ := HB.out
   rw [ST.out]
   simp only [b1, b2, b3, b4, b5, Bool.false_eq_true, false_and, and_false, and_self, if_true, if_false]
   first | exact HQ.out _ | exact H0.out _ | exact H1.out _
 ·rw [bI] at HI
  go_upto_region 7 with (first
   | (go_at_call 82; refine (C82.out _ _).mono ?_; rw [HI.out]; rintro e w1 ⟨rfl, rfl⟩)
   | (go_at_call 81; refine (FL.out _ _ (HP.out _) _).mono ?_; rintro e w1 ⟨⟨r2, rfl, hr⟩, q2, rfl⟩; have E := RV.eq_ hr (HP.out w); rw [bE] at E; clear hr))
  have HS : Hid (RV r (stB n 3 X true)) := Lib.hid (by unfold stB; rw [if_neg (fun h => by rw [bI, bE] at h; simp at h), sA]; exact HR.out)
  clear HI C82 sA bI bE
  refine wp_gen1 (fun wx => ∃ q, wx = w.drewN q) ⟨_, rfl⟩ ?_
  rintro wx ⟨q9, rfl⟩
  have ST : Hid (stepsP n 3 X true = opP .quo (if fleP X (iP 1) = true ∧ fltP (mP n 3) (if fleP 0 X = true ∧ fltP (stB n 3 X true) 0 = true then 0 else stB n 3 X true) = true then mP n 3 else (if fleP 0 X = true ∧ fltP (stB n 3 X true) 0 = true then 0 else stB n 3 X true)) (mP n 3)) := Lib.hid rfl
  obtain ⟨S, hS⟩ : ∃ S, S = stB n 3 X true := ⟨_, rfl⟩
  rw [← hS] at HS ST
  rw [← hR.out] at ST
  have c1 := RV.ge HX.out zero_RV
  have c2 := RV.lt HS.out zero_RV
  have c3 := RV.le HX.out one_RV
  have c4 := RV.gt HS.out HM.out
  have c5 := RV.gt zero_RV HM.out
  have HQ := Lib.hid (fun w => RV.fop .quo HS.out HM.out w)
  have H0 := Lib.hid (fun w => RV.fop .quo zero_RV HM.out w)
  have H1 := Lib.hid (fun w => RV.fop .quo HM.out HM.out w)
  clear hmul hadd hsub hS hR
  cases b1 : fleP 0 X <;> cases b2 : fltP S 0 <;> cases b3 : fleP X (iP 1) <;> cases b4 : fltP (mP n 3) S <;> cases b5 : fltP (mP n 3) 0
  all_goals
   rw [b1] at c1
   rw [b2] at c2
   rw [b3] at c3
   rw [b4] at c4
   rw [b5] at c5
   have HB := Lib.hid (And.intro b1 (And.intro b2 (And.intro b3 (And.intro b4 b5))))
   clear b1 b2 b3 b4 b5
   go_wp2
   go_ret
   refine ⟨⟨_, rfl, ?_⟩, _, rfl⟩
   obtain ⟨b1, b2, b3, b4, b5⟩ := HB.out
   rw [ST.out]
   simp only [b1, b2, b3, b4, b5, Bool.false_eq_true, false_and, and_false, and_self, if_true, if_false]
   first | exact HQ.out _ | exact H0.out _ | exact H1.out _
 ·rw [bI] at HI
  go_upto_region 7 with (first
   | (go_at_call 82; refine (C82.out _ _).mono ?_; rw [HI.out]; rintro e w1 ⟨rfl, rfl⟩)
   | (go_at_call 81; refine (FL.out _ _ (HP.out _) _).mono ?_; rintro e w1 ⟨⟨r2, rfl, hr⟩, q2, rfl⟩; have E := RV.eq_ hr (HP.out w); rw [bE] at E; clear hr))
  have HS : Hid (RV r (stB n 3 X true)) := Lib.hid (by unfold stB; rw [if_neg (fun h => by rw [bI, bE] at h; simp at h), sA]; exact HR.out)
  clear HI C82 sA bI bE
  refine wp_gen1 (fun wx => ∃ q, wx = w.drewN q) ⟨_, rfl⟩ ?_
  rintro wx ⟨q9, rfl⟩
  have ST : Hid (stepsP n 3 X true = opP .quo (if fleP X (iP 1) = true ∧ fltP (mP n 3) (if fleP 0 X = true ∧ fltP (stB n 3 X true) 0 = true then 0 else stB n 3 X true) = true then mP n 3 else (if fleP 0 X = true ∧ fltP (stB n 3 X true) 0 = true then 0 else stB n 3 X true)) (mP n 3)) := Lib.hid rfl
  obtain ⟨S, hS⟩ : ∃ S, S = stB n 3 X true := ⟨_, rfl⟩
  rw [← hS] at HS ST
  rw [← hR.out] at ST
  have c1 := RV.ge HX.out zero_RV
  have c2 := RV.lt HS.out zero_RV
  have c3 := RV.le HX.out one_RV
  have c4 := RV.gt HS.out HM.out
  have c5 := RV.gt zero_RV HM.out
  have HQ := Lib.hid (fun w => RV.fop .quo HS.out HM.out w)
  have H0 := Lib.hid (fun w => RV.fop .quo zero_RV HM.out w)
  have H1 := Lib.hid (fun w => RV.fop .quo HM.out HM.out w)
  clear hmul hadd hsub hS hR
  cases b1 : fleP 0 X <;> cases b2 : fltP S 0 <;> cases b3 : fleP X (iP 1) <;> cases b4 : fltP (mP n 3) S <;> cases b5 : fltP (mP n 3) 0
  all_goals
   rw [b1] at c1
   rw [b2] at c2
   rw [b3] at c3
   rw [b4] at c4
   rw [b5] at c5
   have HB := Lib.hid (And.intro b1 (And.intro b2 (And.intro b3 (And.intro b4 b5))))
   clear b1 b2 b3 b4 b5
   go_wp2
   go_ret
   refine ⟨⟨_, rfl, ?_⟩, _, rfl⟩
   obtain ⟨b1, b2, b3, b4, b5⟩ := HB.out
   rw [ST.out]
   simp only [b1, b2, b3, b4, b5, Bool.false_eq_true, false_and, and_false, and_self, if_true, if_false]
   first | exact HQ.out _ | exact H0.out _ | exact H1.out _
set_option maxRecDepth 100000 in
set_option maxHeartbeats 4000000 in
theorem k80_4f {x : Nat} {X : Int} (hx : RV x X) (n : Nat) {mw : Nat} (hm : RV mw (mP n 4)) (bn bj bm : Nat) (w : World)
  (kn : w.cell? ⟨bn, 0, none⟩ = some (.int .i64 n)) (kj : w.cell? ⟨bj, 0, none⟩ = some (.int .i64 4)) (km : w.cell? ⟨bm, 0, none⟩ = some (.float .f64 mw)) :
  Calls Tryz.prog 80 #[.float .f64 x, .bool false, .pointer (some ⟨bn, 0, none⟩), .pointer (some ⟨bj, 0, none⟩), .pointer (some ⟨bm, 0, none⟩)] w fun e w' => RetR (stepsP n 4 X false) e ∧ ∃ q, w' = w.drewN q := by
 obtain ⟨R, hR0⟩ : ∃ R, R = stepsP n 4 X false := ⟨_, rfl⟩
 rw [← hR0]
 have hR := Lib.hid hR0
 clear hR0
 have hmul := fun w => run_fop (P := Tryz.prog) .mul rfl 31 x (fz n) w
 have hadd := fun s w => run_fop (P := Tryz.prog) .add rfl 31 s 4607182418800017408 w
 have hsub := fun s w => run_fop (P := Tryz.prog) .sub rfl 31 s 4607182418800017408 w
 have hquo := fun s w => run_fop (P := Tryz.prog) .quo rfl 31 s mw w
 have kn' : ∀ q, (w.drewN q).cell? ⟨bn, 0, none⟩ = some (.int .i64 n) := fun _ => kn
 have kj' : ∀ q, (w.drewN q).cell? ⟨bj, 0, none⟩ = some (.int .i64 4) := fun _ => kj
 have km' : ∀ q, (w.drewN q).cell? ⟨bm, 0, none⟩ = some (.float .f64 mw) := fun _ => km
 have hfz : floatOfInt .f64 (n : Int) = fz n := rfl
 have FL := Lib.hid (fun (p : Nat) (P : Int) (h : RV p P) (w : World) => eFloor h w)
 have HP := Lib.hid (fun w => RV.fop .mul hx (fz_RV n) w)
 have HX := Lib.hid hx
 have HM := Lib.hid hm
 clear hx hm
 go_enter Tryz.func80, Tryz.ntmps80
 go_upto_region 3 with (go_at_call 81; refine (FL.out _ _ (HP.out _) _).mono ?_; rintro e w1 ⟨⟨r, rfl, hr⟩, q, rfl⟩; have HR := Lib.hid hr; clear hr)
 go_upto_region 7 with fail
 generalize hs : fop .add r 4607182418800017408 _ = s
 have HS : Hid (RV s (stB n 4 X false)) := Lib.hid (by rw [← hs]; unfold stB stA; rw [if_neg (fun h => by cases h.1), if_pos (by decide)]; exact RV.fop .add HR.out one_RV _)
 clear hs
 refine wp_gen1 (fun wx => ∃ q, wx = w.drewN q) ⟨_, rfl⟩ ?_
 rintro wx ⟨q9, rfl⟩
 have ST : Hid (stepsP n 4 X false = opP .quo (if fleP X (iP 1) = true ∧ fltP (mP n 4) (if fleP 0 X = true ∧ fltP (stB n 4 X false) 0 = true then 0 else stB n 4 X false) = true then mP n 4 else (if fleP 0 X = true ∧ fltP (stB n 4 X false) 0 = true then 0 else stB n 4 X false)) (mP n 4)) := Lib.hid rfl
 obtain ⟨S, hS⟩ : ∃ S, S = stB n 4 X false := ⟨_, rfl⟩
 rw [← hS] at HS ST
 rw [← hR.out] at ST
 have c1 := RV.ge HX.out zero_RV
 have c2 := RV.lt HS.out zero_RV
 have c3 := RV.le HX.out one_RV
 have c4 := RV.gt HS.out HM.out
 have c5 := RV.gt zero_RV HM.out
 have HQ := Lib.hid (fun w => RV.fop .quo HS.out HM.out w)
 have H0 := Lib.hid (fun w => RV.fop .quo zero_RV HM.out w)
 have H1 := Lib.hid (fun w => RV.fop .quo HM.out HM.out w)
 clear hmul hadd hsub hS hR
 cases b1 : fleP 0 X <;> cases b2 : fltP S 0 <;> cases b3 : fleP X (iP 1) <;> cases b4 : fltP (mP n 4) S <;> cases b5 : fltP (mP n 4) 0
 all_goals
  rw [b1] at c1
  rw [b2] at c2
  rw [b3] at c3
  rw [b4] at c4
  rw [b5] at c5
  have HB := Lib.hid (And.intro b1 (And.intro b2 (And.intro b3 (And.intro b4 b5))))
  clear b1 b2 b3 b4 b5
  go_wp2
  go_ret
  refine ⟨⟨_, rfl, ?_⟩, _, rfl⟩
  obtain ⟨b1, b2, b3, b4, b5⟩ := HB.out
  rw [ST.out]
  simp only [b1, b2, b3, b4, b5, Bool.false_eq_true, false_and, and_false, and_self, if_true, if_false]
  first | exact HQ.out _ | exact H0.out _ | exact H1.out _
set_option maxRecDepth 100000 in
set_option maxHeartbeats 4000000 in
theorem k80_4t {x : Nat} {X : Int} (hx : RV x X) (n : Nat) {mw : Nat} (hm : RV mw (mP n 4)) (bn bj bm : Nat) (w : World)
  (kn : w.cell? ⟨bn, 0, none⟩ = some (.int .i64 n)) (kj : w.cell? ⟨bj, 0, none⟩ = some (.int .i64 4)) (km : w.cell? ⟨bm, 0, none⟩ = some (.float .f64 mw)) :
  Calls Tryz.prog 80 #[.float .f64 x, .bool true, .pointer (some ⟨bn, 0, none⟩), .pointer (some ⟨bj, 0, none⟩), .pointer (some ⟨bm, 0, none⟩)] w fun e w' => RetR (stepsP n 4 X true) e ∧ ∃ q, w' = w.drewN q := by
 obtain ⟨R, hR0⟩ : ∃ R, R = stepsP n 4 X true := ⟨_, rfl⟩
 rw [← hR0]
 have hR := Lib.hid hR0
 clear hR0
 have hmul := fun w => run_fop (P := Tryz.prog) .mul rfl 31 x (fz n) w
 have hadd := fun s w => run_fop (P := Tryz.prog) .add rfl 31 s 4607182418800017408 w
 have hsub := fun s w => run_fop (P := Tryz.prog) .sub rfl 31 s 4607182418800017408 w
 have hquo := fun s w => run_fop (P := Tryz.prog) .quo rfl 31 s mw w
 have kn' : ∀ q, (w.drewN q).cell? ⟨bn, 0, none⟩ = some (.int .i64 n) := fun _ => kn
 have kj' : ∀ q, (w.drewN q).cell? ⟨bj, 0, none⟩ = some (.int .i64 4) := fun _ => kj
 have km' : ∀ q, (w.drewN q).cell? ⟨bm, 0, none⟩ = some (.float .f64 mw) := fun _ => km
 have hfz : floatOfInt .f64 (n : Int) = fz n := rfl
 have FL := Lib.hid (fun (p : Nat) (P : Int) (h : RV p P) (w : World) => eFloor h w)
 have HP := Lib.hid (fun w => RV.fop .mul hx (fz_RV n) w)
 have HX := Lib.hid hx
 have HM := Lib.hid hm
 clear hx hm
 go_enter Tryz.func80, Tryz.ntmps80
 go_upto_region 3 with (go_at_call 81; refine (FL.out _ _ (HP.out _) _).mono ?_; rintro e w1 ⟨⟨r, rfl, hr⟩, q, rfl⟩; have HR := Lib.hid hr; clear hr)
 have HI := Lib.hid (fun w => isI_infP (HP.out w))
 have C82 := Lib.hid (fun w w2 => c130 (fop .mul x (fz n) w) w2 (HP.out w).1)
 have sA : stA n 4 X = opP .add (flP (opP .mul X (iP n))) (iP 1) := by unfold stA; rw [if_pos (by decide)]
 cases bI : infP (opP .mul X (iP n)) <;> cases bE : feqP (flP (opP .mul X (iP n))) (opP .mul X (iP n))
 ·rw [bI] at HI
  go_upto_region 7 with (first
   | (go_at_call 82; refine (C82.out _ _).mono ?_; rw [HI.out]; rintro e w1 ⟨rfl, rfl⟩)
   | (go_at_call 81; refine (FL.out _ _ (HP.out _) _).mono ?_; rintro e w1 ⟨⟨r2, rfl, hr⟩, q2, rfl⟩; have E := RV.eq_ hr (HP.out w); rw [bE] at E; clear hr))
  generalize hs : fop .add r 4607182418800017408 _ = s
  have HS : Hid (RV s (stB n 4 X true)) := Lib.hid (by rw [← hs]; unfold stB; rw [if_neg (fun h => by rw [bI, bE] at h; simp at h), sA]; exact RV.fop .add HR.out one_RV _)
  clear hs HI C82 sA bI bE
  refine wp_gen1 (fun wx => ∃ q, wx = w.drewN q) ⟨_, rfl⟩ ?_
  rintro wx ⟨q9, rfl⟩
  have ST : Hid (stepsP n 4 X true = opP .quo (if fleP X (iP 1) = true ∧ fltP (mP n 4) (if fleP 0 X = true ∧ fltP (stB n 4 X true) 0 = true then 0 else stB n 4 X true) = true then mP n 4 else (if fleP 0 X = true ∧ fltP (stB n 4 X true) 0 = true then 0 else stB n 4 X true)) (mP n 4)) := Lib.hid rfl
  obtain ⟨S, hS⟩ : ∃ S, S = stB n 4 X true := ⟨_, rfl⟩
  rw [← hS] at HS ST
  rw [← hR.out] at ST
  have c1 := RV.ge HX.out zero_RV
  have c2 := RV.lt HS.out zero_RV
  have c3 := RV.le HX.out one_RV
  have c4 := RV.gt HS.out HM.out
  have c5 := RV.gt zero_RV HM.out
  have HQ := Lib.hid (fun w => RV.fop .quo HS.out HM.out w)
  have H0 := Lib.hid (fun w => RV.fop .quo zero_RV HM.out w)
  have H1 := Lib.hid (fun w => RV.fop .quo HM.out HM.out w)
  clear hmul hadd hsub hS hR
  cases b1 : fleP 0 X <;> cases b2 : fltP S 0 <;> cases b3 : fleP X (iP 1) <;> cases b4 : fltP (mP n 4) S <;> cases b5 : fltP (mP n 4) 0
  all_goals
   rw [b1] at c1
   rw [b2] at c2
   rw [b3] at c3
   rw [b4] at c4
   rw [b5] at c5
   have HB := Lib.hid (And.intro b1 (And.intro b2 (And.intro b3 (And.intro b4 b5))))
   clear b1 b2 b3 b4 b5
   go_wp2
   go_ret
   refine ⟨⟨_, rfl, ?_⟩, _, rfl⟩
   obtain ⟨b1, b2, b3, b4, b5⟩ := HB.out
   rw [ST.out]
   simp only [b1, b2, b3, b4, b5, Bool.false_eq_true, false_and, and_false, and_self, if_true, if_false]
   first | exact HQ.out _ | exact H0.out _ | exact H1.out _
 ·rw [bI] at HI
  go_upto_region 7 with (first
   | (go_at_call 82; refine (C82.out _ _).mono ?_; rw [HI.out]; rintro e w1 ⟨rfl, rfl⟩)
   | (go_at_call 81; refine (FL.out _ _ (HP.out _) _).mono ?_; rintro e w1 ⟨⟨r2, rfl, hr⟩, q2, rfl⟩; have E := RV.eq_ hr (HP.out w); rw [bE] at E; clear hr))
  generalize hs : fop .sub (fop .add r 4607182418800017408 _) 4607182418800017408 _ = s
  have HS : Hid (RV s (stB n 4 X true)) := Lib.hid (by rw [← hs]; unfold stB; rw [if_pos ⟨rfl, bI, bE⟩, sA]; exact RV.fop .sub (RV.fop .add HR.out one_RV _) one_RV _)
  clear hs HI C82 sA bI bE
  refine wp_gen1 (fun wx => ∃ q, wx = w.drewN q) ⟨_, rfl⟩ ?_
  rintro wx ⟨q9, rfl⟩
  have ST : Hid (stepsP n 4 X true = opP .quo (if fleP X (iP 1) = true ∧ fltP (mP n 4) (if fleP 0 X = true ∧ fltP (stB n 4 X true) 0 = true then 0 else stB n 4 X true) = true then mP n 4 else (if fleP 0 X = true ∧ fltP (stB n 4 X true) 0 = true then 0 else stB n 4 X true)) (mP n 4)) := Lib.hid rfl
  obtain ⟨S, hS⟩ : ∃ S, S = stB n 4 X true := ⟨_, rfl⟩
  rw [← hS] at HS ST
  rw [← hR.out] at ST
  have c1 := RV.ge HX.out zero_RV
  have c2 := RV.lt HS.out zero_RV
  have c3 := RV.le HX.out one_RV
  have c4 := RV.gt HS.out HM.out
  have c5 := RV.gt zero_RV HM.out
  have HQ := Lib.hid (fun w => RV.fop .quo HS.out HM.out w)
  have H0 := Lib.hid (fun w => RV.fop .quo zero_RV HM.out w)
  have H1 := Lib.hid (fun w => RV.fop .quo HM.out HM.out w)
  clear hmul hadd hsub hS hR
  cases b1 : fleP 0 X <;> cases b2 : fltP S 0 <;> cases b3 : fleP X (iP 1) <;> cases b4 : fltP (mP n 4) S <;> cases b5 : fltP (mP n 4) 0
  all_goals
   rw [b1] at c1
   rw [b2] at c2
   rw [b3] at c3
   rw [b4] at c4
   rw [b5] at c5
   have HB := Lib.hid (And.intro b1 (And.intro b2 (And.intro b3 (And.intro b4 b5))))
   clear b1 b2 b3 b4 b5
   go_wp2
   go_ret
   refine ⟨⟨_, rfl, ?_⟩, _, rfl⟩
   obtain ⟨b1, b2, b3, b4, b5⟩ := HB.out
   rw [ST.out]
   simp only [b1, b2, b3, b4, b5, Bool.false_eq_true, false_and, and_false, and_self, if_true, if_false]
   first | exact HQ.out _ | exact H0.out _ | exact H1.out _
 ·rw [bI] at HI
  go_upto_region 7 with (first
   | (go_at_call 82; refine (C82.out _ _).mono ?_; rw [HI.out]; rintro e w1 ⟨rfl, rfl⟩)
   | (go_at_call 81; refine (FL.out _ _ (HP.out _) _).mono ?_; rintro e w1 ⟨⟨r2, rfl, hr⟩, q2, rfl⟩; have E := RV.eq_ hr (HP.out w); rw [bE] at E; clear hr))
  generalize hs : fop .add r 4607182418800017408 _ = s
  have HS : Hid (RV s (stB n 4 X true)) := Lib.hid (by rw [← hs]; unfold stB; rw [if_neg (fun h => by rw [bI, bE] at h; simp at h), sA]; exact RV.fop .add HR.out one_RV _)
  clear hs HI C82 sA bI bE
  refine wp_gen1 (fun wx => ∃ q, wx = w.drewN q) ⟨_, rfl⟩ ?_
  rintro wx ⟨q9, rfl⟩
  have ST : Hid (stepsP n 4 X true = opP .quo (if fleP X (iP 1) = true ∧ fltP (mP n 4) (if fleP 0 X = true ∧ fltP (stB n 4 X true) 0 = true then 0 else stB n 4 X true) = true then mP n 4 else (if fleP 0 X = true ∧ fltP (stB n 4 X true) 0 = true then 0 else stB n 4 X true)) (mP n 4)) := Lib.hid rfl
  obtain ⟨S, hS⟩ : ∃ S, S = stB n 4 X true := ⟨_, rfl⟩
  rw [← hS] at HS ST
  rw [← hR.out] at ST
  have c1 := RV.ge HX.out zero_RV
  have c2 := RV.lt HS.out zero_RV
  have c3 := RV.le HX.out one_RV
  have c4 := RV.gt HS.out HM.out
  have c5 := RV.gt zero_RV HM.out
  have HQ := Lib.hid (fun w => RV.fop .quo HS.out HM.out w)
  have H0 := Lib.hid (fun w => RV.fop .quo zero_RV HM.out w)
  have H1 := Lib.hid (fun w => RV.fop .quo HM.out HM.out w)
  clear hmul hadd hsub hS hR
  cases b1 : fleP 0 X <;> cases b2 : fltP S 0 <;> cases b3 : fleP X (iP 1) <;> cases b4 : fltP (mP n 4) S <;> cases b5 : fltP (mP n 4) 0
  all_goals
   rw [b1] at c1
   rw [b2] at c2
   rw [b3] at c3
   rw [b4] at c4
   rw [b5] at c5
   have HB := Lib.hid (And.intro b1 (And.intro b2 (And.intro b3 (And.intro b4 b5))))
   clear b1 b2 b3 b4 b5
   go_wp2
   go_ret
   refine ⟨⟨_, rfl, ?_⟩, _, rfl⟩
   obtain ⟨b1, b2, b3, b4, b5⟩ := HB.out
   rw [ST.out]
   simp only [b1, b2, b3, b4, b5, Bool.false_eq_true, false_and, and_false, and_self, if_true, if_false]
   first | exact HQ.out _ | exact H0.out _ | exact H1.out _
 ·rw [bI] at HI
  go_upto_region 7 with (first
   | (go_at_call 82; refine (C82.out _ _).mono ?_; rw [HI.out]; rintro e w1 ⟨rfl, rfl⟩)
   | (go_at_call 81; refine (FL.out _ _ (HP.out _) _).mono ?_; rintro e w1 ⟨⟨r2, rfl, hr⟩, q2, rfl⟩; have E := RV.eq_ hr (HP.out w); rw [bE] at E; clear hr))
  generalize hs : fop .add r 4607182418800017408 _ = s
  have HS : Hid (RV s (stB n 4 X true)) := Lib.hid (by rw [← hs]; unfold stB; rw [if_neg (fun h => by rw [bI, bE] at h; simp at h), sA]; exact RV.fop .add HR.out one_RV _)
  clear hs HI C82 sA bI bE
  refine wp_gen1 (fun wx => ∃ q, wx = w.drewN q) ⟨_, rfl⟩ ?_
  rintro wx ⟨q9, rfl⟩
  have ST : Hid (stepsP n 4 X true = opP .quo (if fleP X (iP 1) = true ∧ fltP (mP n 4) (if fleP 0 X = true ∧ fltP (stB n 4 X true) 0 = true then 0 else stB n 4 X true) = true then mP n 4 else (if fleP 0 X = true ∧ fltP (stB n 4 X true) 0 = true then 0 else stB n 4 X true)) (mP n 4)) := Lib.hid rfl
  obtain ⟨S, hS⟩ : ∃ S, S = stB n 4 X true := ⟨_, rfl⟩
  rw [← hS] at HS ST
  rw [← hR.out] at ST
  have c1 := RV.ge HX.out zero_RV
  have c2 := RV.lt HS.out zero_RV
  have c3 := RV.le HX.out one_RV
  have c4 := RV.gt HS.out HM.out
  have c5 := RV.gt zero_RV HM.out
  have HQ := Lib.hid (fun w => RV.fop .quo HS.out HM.out w)
  have H0 := Lib.hid (fun w => RV.fop .quo zero_RV HM.out w)
  have H1 := Lib.hid (fun w => RV.fop .quo HM.out HM.out w)
  clear hmul hadd hsub hS hR
  cases b1 : fleP 0 X <;> cases b2 : fltP S 0 <;> cases b3 : fleP X (iP 1) <;> cases b4 : fltP (mP n 4) S <;> cases b5 : fltP (mP n 4) 0
  all_goals
   rw [b1] at c1
   rw [b2] at c2
   rw [b3] at c3
   rw [b4] at c4
   rw [b5] at c5
   have HB := Lib.hid (And.intro b1 (And.intro b2 (And.intro b3 (And.intro b4 b5))))
   clear b1 b2 b3 b4 b5
   go_wp2
   go_ret
   refine ⟨⟨_, rfl, ?_⟩, _, rfl⟩
   obtain ⟨b1, b2, b3, b4, b5⟩ := HB.out
   rw [ST.out]
   simp only [b1, b2, b3, b4, b5, Bool.false_eq_true, false_and, and_false, and_self, if_true, if_false]
   first | exact HQ.out _ | exact H0.out _ | exact H1.out _
end Go.Proofs.YtlgencbldbpbdaaGreatDoor
namespace Go.Proofs.YtlgencbldbpbdaaGreatDoor
open Go.RowKit Fl
theorem wp_genB {P : Program} {c : Code} {Q : Exit → Act → World → Prop} {a : Act} {w : World} (R : World → Prop) (h : R w) (k : ∀ wx, R wx → c.wp P Q a wx) : c.wp P Q a w := k w h
theorem three_RV : RV 4613937818241073152 (iP 3) := ⟨by unfold U; decide, by decide +kernel⟩
theorem two_RV : RV 4611686018427387904 (iP 2) := ⟨by unfold U; decide, by decide +kernel⟩
set_option maxRecDepth 100000 in
set_option maxHeartbeats 1000000 in
theorem k79 {p q t : Nat} {P Q T : Int} (hp : RV p P) (hq : RV q Q) (ht : RV t T) (w : World) : Calls Tryz.prog 79 #[.float .f64 p, .float .f64 q, .float .f64 t] w fun e w' => RetR (bezP P Q T) e ∧ ∃ n, w' = w.drewN n := by
 have hA := fun x y w => run_fop (P := Tryz.prog) .add rfl 31 x y w
 have hS := fun x y w => run_fop (P := Tryz.prog) .sub rfl 31 x y w
 have hM := fun x y w => run_fop (P := Tryz.prog) .mul rfl 31 x y w
 have H := Lib.hid (And.intro hp (And.intro hq ht))
 clear hp hq ht
 go_enter Tryz.func79, Tryz.ntmps79
 go_wp2
 go_ret
 refine ⟨⟨_, rfl, ?_⟩, _, rfl⟩
 obtain ⟨hp, hq, ht⟩ := H.out
 have hu := fun w => RV.fop .sub one_RV ht w
 exact RV.fop .add (RV.fop .add (RV.fop .mul (RV.fop .mul (RV.fop .mul (RV.fop .mul three_RV hp _) (hu _) _) (hu _) _) ht _) (RV.fop .mul (RV.fop .mul (RV.fop .mul (RV.fop .mul three_RV hq _) (hu _) _) ht _) ht _) _) (RV.fop .mul (RV.fop .mul ht ht _) ht _) _
def bisS (a c x : Int) (s : Int × Int) : Int × Int := if fltP (bezP a c (halfP s.1 s.2)) x = true then (halfP s.1 s.2, s.2) else (s.1, halfP s.1 s.2)
theorem bis_succ (a c x : Int) : ∀ (n : Nat) (s : Int × Int), bisP a c x (n + 1) s = bisS a c x (bisP a c x n s)
 | 0, s => rfl
 | n + 1, s => by
   show bisP a c x (n + 1) (bisS a c x s) = _
   rw [bis_succ a c x n]
   rfl
set_option maxRecDepth 100000 in
set_option maxHeartbeats 2000000 in
theorem k78_a {x : Nat} {X : Int} (hx : RV x X) (a b c d : Nat) (ha : U a) (hb : U b) (hc : U c) (hd : U d) (p q r s : Nat) (before : Bool) (w : World) (kp : w.cell? ⟨p, 0, none⟩ = some (.float .f64 a)) (kq : w.cell? ⟨q, 0, none⟩ = some (.float .f64 b)) (kr : w.cell? ⟨r, 0, none⟩ = some (.float .f64 c)) (ks : w.cell? ⟨s, 0, none⟩ = some (.float .f64 d)) (b1 : fltP X 0 = true) (b2 : fltP 0 (pl a) = true) :
  Calls Tryz.prog 78 #[.float .f64 x, .bool before, .pointer (some ⟨p, 0, none⟩), .pointer (some ⟨q, 0, none⟩), .pointer (some ⟨r, 0, none⟩), .pointer (some ⟨s, 0, none⟩)] w fun e w' => RetR (bentP (pl a) (pl b) (pl c) (pl d) X) e ∧ ∃ n, w' = w.drewN n := by
 have hA := fun x y w => run_fop (P := Tryz.prog) .add rfl 31 x y w
 have hS := fun x y w => run_fop (P := Tryz.prog) .sub rfl 31 x y w
 have hM := fun x y w => run_fop (P := Tryz.prog) .mul rfl 31 x y w
 have hQ := fun x y w => run_fop (P := Tryz.prog) .quo rfl 31 x y w
 have kp' : ∀ n, (w.drewN n).cell? ⟨p, 0, none⟩ = some (.float .f64 a) := fun _ => kp
 have kq' : ∀ n, (w.drewN n).cell? ⟨q, 0, none⟩ = some (.float .f64 b) := fun _ => kq
 have kr' : ∀ n, (w.drewN n).cell? ⟨r, 0, none⟩ = some (.float .f64 c) := fun _ => kr
 have ks' : ∀ n, (w.drewN n).cell? ⟨s, 0, none⟩ = some (.float .f64 d) := fun _ => ks
 have Ra := RV.self ha
 have Rb := RV.self hb
 have Rc := RV.self hc
 have Rd := RV.self hd
 have q1 := RV.lt hx zero_RV
 have q2 := RV.gt Ra zero_RV
 have q3 := RV.gt Rc zero_RV
 have q4 := RV.gt hx one_RV
 have q5 := RV.lt Rc one_RV
 have q6 := RV.lt Ra one_RV
 have q7 := RV.eq_ hx zero_RV
 have q8 := RV.eq_ hx one_RV
 rw [b1] at q1
 rw [b2] at q2
 clear q3 q4 q5 q6 q7 q8
 have E := Lib.hid (show bentP (pl a) (pl b) (pl c) (pl d) X = opP .mul (opP .quo (pl b) (pl a)) X by
  unfold bentP
  rw [if_pos b1, if_pos b2])
 have H := Lib.hid (And.intro hx (And.intro Ra (And.intro Rb (And.intro Rc Rd))))
 clear hx Ra Rb Rc Rd ha hb hc hd b1 b2
 go_enter Tryz.func78, Tryz.ntmps78
 go_wp2
 go_ret
 refine ⟨⟨_, rfl, ?_⟩, _, rfl⟩
 obtain ⟨hx, Ra, Rb, Rc, Rd⟩ := H.out
 rw [E.out]
 exact RV.fop .mul (RV.fop .quo Rb Ra _) hx _
set_option maxRecDepth 100000 in
set_option maxHeartbeats 2000000 in
theorem k78_b {x : Nat} {X : Int} (hx : RV x X) (a b c d : Nat) (ha : U a) (hb : U b) (hc : U c) (hd : U d) (p q r s : Nat) (before : Bool) (w : World) (kp : w.cell? ⟨p, 0, none⟩ = some (.float .f64 a)) (kq : w.cell? ⟨q, 0, none⟩ = some (.float .f64 b)) (kr : w.cell? ⟨r, 0, none⟩ = some (.float .f64 c)) (ks : w.cell? ⟨s, 0, none⟩ = some (.float .f64 d)) (b1 : fltP X 0 = true) (b2 : fltP 0 (pl a) = false) (b3 : fltP 0 (pl c) = true) :
  Calls Tryz.prog 78 #[.float .f64 x, .bool before, .pointer (some ⟨p, 0, none⟩), .pointer (some ⟨q, 0, none⟩), .pointer (some ⟨r, 0, none⟩), .pointer (some ⟨s, 0, none⟩)] w fun e w' => RetR (bentP (pl a) (pl b) (pl c) (pl d) X) e ∧ ∃ n, w' = w.drewN n := by
 have hA := fun x y w => run_fop (P := Tryz.prog) .add rfl 31 x y w
 have hS := fun x y w => run_fop (P := Tryz.prog) .sub rfl 31 x y w
 have hM := fun x y w => run_fop (P := Tryz.prog) .mul rfl 31 x y w
 have hQ := fun x y w => run_fop (P := Tryz.prog) .quo rfl 31 x y w
 have kp' : ∀ n, (w.drewN n).cell? ⟨p, 0, none⟩ = some (.float .f64 a) := fun _ => kp
 have kq' : ∀ n, (w.drewN n).cell? ⟨q, 0, none⟩ = some (.float .f64 b) := fun _ => kq
 have kr' : ∀ n, (w.drewN n).cell? ⟨r, 0, none⟩ = some (.float .f64 c) := fun _ => kr
 have ks' : ∀ n, (w.drewN n).cell? ⟨s, 0, none⟩ = some (.float .f64 d) := fun _ => ks
 have Ra := RV.self ha
 have Rb := RV.self hb
 have Rc := RV.self hc
 have Rd := RV.self hd
 have q1 := RV.lt hx zero_RV
 have q2 := RV.gt Ra zero_RV
 have q3 := RV.gt Rc zero_RV
 have q4 := RV.gt hx one_RV
 have q5 := RV.lt Rc one_RV
 have q6 := RV.lt Ra one_RV
 have q7 := RV.eq_ hx zero_RV
 have q8 := RV.eq_ hx one_RV
 rw [b1] at q1
 rw [b2] at q2
 rw [b3] at q3
 clear q4 q5 q6 q7 q8
 have E := Lib.hid (show bentP (pl a) (pl b) (pl c) (pl d) X = opP .mul (opP .quo (pl d) (pl c)) X by
  unfold bentP
  rw [if_pos b1, if_neg (by rw [b2]; decide), if_pos b3])
 have H := Lib.hid (And.intro hx (And.intro Ra (And.intro Rb (And.intro Rc Rd))))
 clear hx Ra Rb Rc Rd ha hb hc hd b1 b2 b3
 go_enter Tryz.func78, Tryz.ntmps78
 go_wp2
 go_ret
 refine ⟨⟨_, rfl, ?_⟩, _, rfl⟩
 obtain ⟨hx, Ra, Rb, Rc, Rd⟩ := H.out
 rw [E.out]
 exact RV.fop .mul (RV.fop .quo Rd Rc _) hx _
set_option maxRecDepth 100000 in
set_option maxHeartbeats 2000000 in
theorem k78_c {x : Nat} {X : Int} (hx : RV x X) (a b c d : Nat) (ha : U a) (hb : U b) (hc : U c) (hd : U d) (p q r s : Nat) (before : Bool) (w : World) (kp : w.cell? ⟨p, 0, none⟩ = some (.float .f64 a)) (kq : w.cell? ⟨q, 0, none⟩ = some (.float .f64 b)) (kr : w.cell? ⟨r, 0, none⟩ = some (.float .f64 c)) (ks : w.cell? ⟨s, 0, none⟩ = some (.float .f64 d)) (b1 : fltP X 0 = true) (b2 : fltP 0 (pl a) = false) (b3 : fltP 0 (pl c) = false) :
  Calls Tryz.prog 78 #[.float .f64 x, .bool before, .pointer (some ⟨p, 0, none⟩), .pointer (some ⟨q, 0, none⟩), .pointer (some ⟨r, 0, none⟩), .pointer (some ⟨s, 0, none⟩)] w fun e w' => RetR (bentP (pl a) (pl b) (pl c) (pl d) X) e ∧ ∃ n, w' = w.drewN n := by
 have hA := fun x y w => run_fop (P := Tryz.prog) .add rfl 31 x y w
 have hS := fun x y w => run_fop (P := Tryz.prog) .sub rfl 31 x y w
 have hM := fun x y w => run_fop (P := Tryz.prog) .mul rfl 31 x y w
 have hQ := fun x y w => run_fop (P := Tryz.prog) .quo rfl 31 x y w
 have kp' : ∀ n, (w.drewN n).cell? ⟨p, 0, none⟩ = some (.float .f64 a) := fun _ => kp
 have kq' : ∀ n, (w.drewN n).cell? ⟨q, 0, none⟩ = some (.float .f64 b) := fun _ => kq
 have kr' : ∀ n, (w.drewN n).cell? ⟨r, 0, none⟩ = some (.float .f64 c) := fun _ => kr
 have ks' : ∀ n, (w.drewN n).cell? ⟨s, 0, none⟩ = some (.float .f64 d) := fun _ => ks
 have Ra := RV.self ha
 have Rb := RV.self hb
 have Rc := RV.self hc
 have Rd := RV.self hd
 have q1 := RV.lt hx zero_RV
 have q2 := RV.gt Ra zero_RV
 have q3 := RV.gt Rc zero_RV
 have q4 := RV.gt hx one_RV
 have q5 := RV.lt Rc one_RV
 have q6 := RV.lt Ra one_RV
 have q7 := RV.eq_ hx zero_RV
 have q8 := RV.eq_ hx one_RV
 rw [b1] at q1
 rw [b2] at q2
 rw [b3] at q3
 clear q4 q5 q6 q7 q8
 have E := Lib.hid (show bentP (pl a) (pl b) (pl c) (pl d) X = 0 by
  unfold bentP
  rw [if_pos b1, if_neg (by rw [b2]; decide), if_neg (by rw [b3]; decide)])
 have H := Lib.hid (And.intro hx (And.intro Ra (And.intro Rb (And.intro Rc Rd))))
 clear hx Ra Rb Rc Rd ha hb hc hd b1 b2 b3
 go_enter Tryz.func78, Tryz.ntmps78
 go_wp2
 go_ret
 refine ⟨⟨_, rfl, ?_⟩, _, rfl⟩
 obtain ⟨hx, Ra, Rb, Rc, Rd⟩ := H.out
 rw [E.out]
 exact zero_RV
set_option maxRecDepth 100000 in
set_option maxHeartbeats 2000000 in
theorem k78_d {x : Nat} {X : Int} (hx : RV x X) (a b c d : Nat) (ha : U a) (hb : U b) (hc : U c) (hd : U d) (p q r s : Nat) (before : Bool) (w : World) (kp : w.cell? ⟨p, 0, none⟩ = some (.float .f64 a)) (kq : w.cell? ⟨q, 0, none⟩ = some (.float .f64 b)) (kr : w.cell? ⟨r, 0, none⟩ = some (.float .f64 c)) (ks : w.cell? ⟨s, 0, none⟩ = some (.float .f64 d)) (b1 : fltP X 0 = false) (b4 : fltP (iP 1) X = true) (b5 : fltP (pl c) (iP 1) = true) :
  Calls Tryz.prog 78 #[.float .f64 x, .bool before, .pointer (some ⟨p, 0, none⟩), .pointer (some ⟨q, 0, none⟩), .pointer (some ⟨r, 0, none⟩), .pointer (some ⟨s, 0, none⟩)] w fun e w' => RetR (bentP (pl a) (pl b) (pl c) (pl d) X) e ∧ ∃ n, w' = w.drewN n := by
 have hA := fun x y w => run_fop (P := Tryz.prog) .add rfl 31 x y w
 have hS := fun x y w => run_fop (P := Tryz.prog) .sub rfl 31 x y w
 have hM := fun x y w => run_fop (P := Tryz.prog) .mul rfl 31 x y w
 have hQ := fun x y w => run_fop (P := Tryz.prog) .quo rfl 31 x y w
 have kp' : ∀ n, (w.drewN n).cell? ⟨p, 0, none⟩ = some (.float .f64 a) := fun _ => kp
 have kq' : ∀ n, (w.drewN n).cell? ⟨q, 0, none⟩ = some (.float .f64 b) := fun _ => kq
 have kr' : ∀ n, (w.drewN n).cell? ⟨r, 0, none⟩ = some (.float .f64 c) := fun _ => kr
 have ks' : ∀ n, (w.drewN n).cell? ⟨s, 0, none⟩ = some (.float .f64 d) := fun _ => ks
 have Ra := RV.self ha
 have Rb := RV.self hb
 have Rc := RV.self hc
 have Rd := RV.self hd
 have q1 := RV.lt hx zero_RV
 have q2 := RV.gt Ra zero_RV
 have q3 := RV.gt Rc zero_RV
 have q4 := RV.gt hx one_RV
 have q5 := RV.lt Rc one_RV
 have q6 := RV.lt Ra one_RV
 have q7 := RV.eq_ hx zero_RV
 have q8 := RV.eq_ hx one_RV
 rw [b1] at q1
 rw [b4] at q4
 rw [b5] at q5
 clear q2 q3 q6 q7 q8
 have E := Lib.hid (show bentP (pl a) (pl b) (pl c) (pl d) X = opP .add (iP 1) (opP .mul (opP .quo (opP .sub (pl d) (iP 1)) (opP .sub (pl c) (iP 1))) (opP .sub X (iP 1))) by
  unfold bentP
  rw [if_neg (by rw [b1]; decide), if_pos b4, if_pos b5])
 have H := Lib.hid (And.intro hx (And.intro Ra (And.intro Rb (And.intro Rc Rd))))
 clear hx Ra Rb Rc Rd ha hb hc hd b1 b4 b5
 go_enter Tryz.func78, Tryz.ntmps78
 go_wp2
 go_ret
 refine ⟨⟨_, rfl, ?_⟩, _, rfl⟩
 obtain ⟨hx, Ra, Rb, Rc, Rd⟩ := H.out
 rw [E.out]
 exact RV.fop .add one_RV (RV.fop .mul (RV.fop .quo (RV.fop .sub Rd one_RV _) (RV.fop .sub Rc one_RV _) _) (RV.fop .sub hx one_RV _) _) _
set_option maxRecDepth 100000 in
set_option maxHeartbeats 2000000 in
theorem k78_e {x : Nat} {X : Int} (hx : RV x X) (a b c d : Nat) (ha : U a) (hb : U b) (hc : U c) (hd : U d) (p q r s : Nat) (before : Bool) (w : World) (kp : w.cell? ⟨p, 0, none⟩ = some (.float .f64 a)) (kq : w.cell? ⟨q, 0, none⟩ = some (.float .f64 b)) (kr : w.cell? ⟨r, 0, none⟩ = some (.float .f64 c)) (ks : w.cell? ⟨s, 0, none⟩ = some (.float .f64 d)) (b1 : fltP X 0 = false) (b4 : fltP (iP 1) X = true) (b5 : fltP (pl c) (iP 1) = false) (b6 : fltP (pl a) (iP 1) = true) :
  Calls Tryz.prog 78 #[.float .f64 x, .bool before, .pointer (some ⟨p, 0, none⟩), .pointer (some ⟨q, 0, none⟩), .pointer (some ⟨r, 0, none⟩), .pointer (some ⟨s, 0, none⟩)] w fun e w' => RetR (bentP (pl a) (pl b) (pl c) (pl d) X) e ∧ ∃ n, w' = w.drewN n := by
 have hA := fun x y w => run_fop (P := Tryz.prog) .add rfl 31 x y w
 have hS := fun x y w => run_fop (P := Tryz.prog) .sub rfl 31 x y w
 have hM := fun x y w => run_fop (P := Tryz.prog) .mul rfl 31 x y w
 have hQ := fun x y w => run_fop (P := Tryz.prog) .quo rfl 31 x y w
 have kp' : ∀ n, (w.drewN n).cell? ⟨p, 0, none⟩ = some (.float .f64 a) := fun _ => kp
 have kq' : ∀ n, (w.drewN n).cell? ⟨q, 0, none⟩ = some (.float .f64 b) := fun _ => kq
 have kr' : ∀ n, (w.drewN n).cell? ⟨r, 0, none⟩ = some (.float .f64 c) := fun _ => kr
 have ks' : ∀ n, (w.drewN n).cell? ⟨s, 0, none⟩ = some (.float .f64 d) := fun _ => ks
 have Ra := RV.self ha
 have Rb := RV.self hb
 have Rc := RV.self hc
 have Rd := RV.self hd
 have q1 := RV.lt hx zero_RV
 have q2 := RV.gt Ra zero_RV
 have q3 := RV.gt Rc zero_RV
 have q4 := RV.gt hx one_RV
 have q5 := RV.lt Rc one_RV
 have q6 := RV.lt Ra one_RV
 have q7 := RV.eq_ hx zero_RV
 have q8 := RV.eq_ hx one_RV
 rw [b1] at q1
 rw [b4] at q4
 rw [b5] at q5
 rw [b6] at q6
 clear q2 q3 q7 q8
 have E := Lib.hid (show bentP (pl a) (pl b) (pl c) (pl d) X = opP .add (iP 1) (opP .mul (opP .quo (opP .sub (pl b) (iP 1)) (opP .sub (pl a) (iP 1))) (opP .sub X (iP 1))) by
  unfold bentP
  rw [if_neg (by rw [b1]; decide), if_pos b4, if_neg (by rw [b5]; decide), if_pos b6])
 have H := Lib.hid (And.intro hx (And.intro Ra (And.intro Rb (And.intro Rc Rd))))
 clear hx Ra Rb Rc Rd ha hb hc hd b1 b4 b5 b6
 go_enter Tryz.func78, Tryz.ntmps78
 go_wp2
 go_ret
 refine ⟨⟨_, rfl, ?_⟩, _, rfl⟩
 obtain ⟨hx, Ra, Rb, Rc, Rd⟩ := H.out
 rw [E.out]
 exact RV.fop .add one_RV (RV.fop .mul (RV.fop .quo (RV.fop .sub Rb one_RV _) (RV.fop .sub Ra one_RV _) _) (RV.fop .sub hx one_RV _) _) _
set_option maxRecDepth 100000 in
set_option maxHeartbeats 2000000 in
theorem k78_f {x : Nat} {X : Int} (hx : RV x X) (a b c d : Nat) (ha : U a) (hb : U b) (hc : U c) (hd : U d) (p q r s : Nat) (before : Bool) (w : World) (kp : w.cell? ⟨p, 0, none⟩ = some (.float .f64 a)) (kq : w.cell? ⟨q, 0, none⟩ = some (.float .f64 b)) (kr : w.cell? ⟨r, 0, none⟩ = some (.float .f64 c)) (ks : w.cell? ⟨s, 0, none⟩ = some (.float .f64 d)) (b1 : fltP X 0 = false) (b4 : fltP (iP 1) X = true) (b5 : fltP (pl c) (iP 1) = false) (b6 : fltP (pl a) (iP 1) = false) :
  Calls Tryz.prog 78 #[.float .f64 x, .bool before, .pointer (some ⟨p, 0, none⟩), .pointer (some ⟨q, 0, none⟩), .pointer (some ⟨r, 0, none⟩), .pointer (some ⟨s, 0, none⟩)] w fun e w' => RetR (bentP (pl a) (pl b) (pl c) (pl d) X) e ∧ ∃ n, w' = w.drewN n := by
 have hA := fun x y w => run_fop (P := Tryz.prog) .add rfl 31 x y w
 have hS := fun x y w => run_fop (P := Tryz.prog) .sub rfl 31 x y w
 have hM := fun x y w => run_fop (P := Tryz.prog) .mul rfl 31 x y w
 have hQ := fun x y w => run_fop (P := Tryz.prog) .quo rfl 31 x y w
 have kp' : ∀ n, (w.drewN n).cell? ⟨p, 0, none⟩ = some (.float .f64 a) := fun _ => kp
 have kq' : ∀ n, (w.drewN n).cell? ⟨q, 0, none⟩ = some (.float .f64 b) := fun _ => kq
 have kr' : ∀ n, (w.drewN n).cell? ⟨r, 0, none⟩ = some (.float .f64 c) := fun _ => kr
 have ks' : ∀ n, (w.drewN n).cell? ⟨s, 0, none⟩ = some (.float .f64 d) := fun _ => ks
 have Ra := RV.self ha
 have Rb := RV.self hb
 have Rc := RV.self hc
 have Rd := RV.self hd
 have q1 := RV.lt hx zero_RV
 have q2 := RV.gt Ra zero_RV
 have q3 := RV.gt Rc zero_RV
 have q4 := RV.gt hx one_RV
 have q5 := RV.lt Rc one_RV
 have q6 := RV.lt Ra one_RV
 have q7 := RV.eq_ hx zero_RV
 have q8 := RV.eq_ hx one_RV
 rw [b1] at q1
 rw [b4] at q4
 rw [b5] at q5
 rw [b6] at q6
 clear q2 q3 q7 q8
 have E := Lib.hid (show bentP (pl a) (pl b) (pl c) (pl d) X = iP 1 by
  unfold bentP
  rw [if_neg (by rw [b1]; decide), if_pos b4, if_neg (by rw [b5]; decide), if_neg (by rw [b6]; decide)])
 have H := Lib.hid (And.intro hx (And.intro Ra (And.intro Rb (And.intro Rc Rd))))
 clear hx Ra Rb Rc Rd ha hb hc hd b1 b4 b5 b6
 go_enter Tryz.func78, Tryz.ntmps78
 go_wp2
 go_ret
 refine ⟨⟨_, rfl, ?_⟩, _, rfl⟩
 obtain ⟨hx, Ra, Rb, Rc, Rd⟩ := H.out
 rw [E.out]
 exact one_RV
set_option maxRecDepth 100000 in
set_option maxHeartbeats 2000000 in
theorem k78_g {x : Nat} {X : Int} (hx : RV x X) (a b c d : Nat) (ha : U a) (hb : U b) (hc : U c) (hd : U d) (p q r s : Nat) (before : Bool) (w : World) (kp : w.cell? ⟨p, 0, none⟩ = some (.float .f64 a)) (kq : w.cell? ⟨q, 0, none⟩ = some (.float .f64 b)) (kr : w.cell? ⟨r, 0, none⟩ = some (.float .f64 c)) (ks : w.cell? ⟨s, 0, none⟩ = some (.float .f64 d)) (b1 : fltP X 0 = false) (b4 : fltP (iP 1) X = false) (b7 : feqP X 0 = true) :
  Calls Tryz.prog 78 #[.float .f64 x, .bool before, .pointer (some ⟨p, 0, none⟩), .pointer (some ⟨q, 0, none⟩), .pointer (some ⟨r, 0, none⟩), .pointer (some ⟨s, 0, none⟩)] w fun e w' => RetR (bentP (pl a) (pl b) (pl c) (pl d) X) e ∧ ∃ n, w' = w.drewN n := by
 have hA := fun x y w => run_fop (P := Tryz.prog) .add rfl 31 x y w
 have hS := fun x y w => run_fop (P := Tryz.prog) .sub rfl 31 x y w
 have hM := fun x y w => run_fop (P := Tryz.prog) .mul rfl 31 x y w
 have hQ := fun x y w => run_fop (P := Tryz.prog) .quo rfl 31 x y w
 have kp' : ∀ n, (w.drewN n).cell? ⟨p, 0, none⟩ = some (.float .f64 a) := fun _ => kp
 have kq' : ∀ n, (w.drewN n).cell? ⟨q, 0, none⟩ = some (.float .f64 b) := fun _ => kq
 have kr' : ∀ n, (w.drewN n).cell? ⟨r, 0, none⟩ = some (.float .f64 c) := fun _ => kr
 have ks' : ∀ n, (w.drewN n).cell? ⟨s, 0, none⟩ = some (.float .f64 d) := fun _ => ks
 have Ra := RV.self ha
 have Rb := RV.self hb
 have Rc := RV.self hc
 have Rd := RV.self hd
 have q1 := RV.lt hx zero_RV
 have q2 := RV.gt Ra zero_RV
 have q3 := RV.gt Rc zero_RV
 have q4 := RV.gt hx one_RV
 have q5 := RV.lt Rc one_RV
 have q6 := RV.lt Ra one_RV
 have q7 := RV.eq_ hx zero_RV
 have q8 := RV.eq_ hx one_RV
 rw [b1] at q1
 rw [b4] at q4
 rw [b7] at q7
 clear q2 q3 q5 q6 q8
 have E := Lib.hid (show bentP (pl a) (pl b) (pl c) (pl d) X = X by
  unfold bentP
  rw [if_neg (by rw [b1]; decide), if_neg (by rw [b4]; decide), if_pos (.inl b7)])
 have H := Lib.hid (And.intro hx (And.intro Ra (And.intro Rb (And.intro Rc Rd))))
 clear hx Ra Rb Rc Rd ha hb hc hd b1 b4 b7
 go_enter Tryz.func78, Tryz.ntmps78
 go_wp2
 go_ret
 refine ⟨⟨_, rfl, ?_⟩, _, rfl⟩
 obtain ⟨hx, Ra, Rb, Rc, Rd⟩ := H.out
 rw [E.out]
 exact hx
set_option maxRecDepth 100000 in
set_option maxHeartbeats 2000000 in
theorem k78_h {x : Nat} {X : Int} (hx : RV x X) (a b c d : Nat) (ha : U a) (hb : U b) (hc : U c) (hd : U d) (p q r s : Nat) (before : Bool) (w : World) (kp : w.cell? ⟨p, 0, none⟩ = some (.float .f64 a)) (kq : w.cell? ⟨q, 0, none⟩ = some (.float .f64 b)) (kr : w.cell? ⟨r, 0, none⟩ = some (.float .f64 c)) (ks : w.cell? ⟨s, 0, none⟩ = some (.float .f64 d)) (b1 : fltP X 0 = false) (b4 : fltP (iP 1) X = false) (b7 : feqP X 0 = false) (b8 : feqP X (iP 1) = true) :
  Calls Tryz.prog 78 #[.float .f64 x, .bool before, .pointer (some ⟨p, 0, none⟩), .pointer (some ⟨q, 0, none⟩), .pointer (some ⟨r, 0, none⟩), .pointer (some ⟨s, 0, none⟩)] w fun e w' => RetR (bentP (pl a) (pl b) (pl c) (pl d) X) e ∧ ∃ n, w' = w.drewN n := by
 have hA := fun x y w => run_fop (P := Tryz.prog) .add rfl 31 x y w
 have hS := fun x y w => run_fop (P := Tryz.prog) .sub rfl 31 x y w
 have hM := fun x y w => run_fop (P := Tryz.prog) .mul rfl 31 x y w
 have hQ := fun x y w => run_fop (P := Tryz.prog) .quo rfl 31 x y w
 have kp' : ∀ n, (w.drewN n).cell? ⟨p, 0, none⟩ = some (.float .f64 a) := fun _ => kp
 have kq' : ∀ n, (w.drewN n).cell? ⟨q, 0, none⟩ = some (.float .f64 b) := fun _ => kq
 have kr' : ∀ n, (w.drewN n).cell? ⟨r, 0, none⟩ = some (.float .f64 c) := fun _ => kr
 have ks' : ∀ n, (w.drewN n).cell? ⟨s, 0, none⟩ = some (.float .f64 d) := fun _ => ks
 have Ra := RV.self ha
 have Rb := RV.self hb
 have Rc := RV.self hc
 have Rd := RV.self hd
 have q1 := RV.lt hx zero_RV
 have q2 := RV.gt Ra zero_RV
 have q3 := RV.gt Rc zero_RV
 have q4 := RV.gt hx one_RV
 have q5 := RV.lt Rc one_RV
 have q6 := RV.lt Ra one_RV
 have q7 := RV.eq_ hx zero_RV
 have q8 := RV.eq_ hx one_RV
 rw [b1] at q1
 rw [b4] at q4
 rw [b7] at q7
 rw [b8] at q8
 clear q2 q3 q5 q6
 have E := Lib.hid (show bentP (pl a) (pl b) (pl c) (pl d) X = X by
  unfold bentP
  rw [if_neg (by rw [b1]; decide), if_neg (by rw [b4]; decide), if_pos (.inr b8)])
 have H := Lib.hid (And.intro hx (And.intro Ra (And.intro Rb (And.intro Rc Rd))))
 clear hx Ra Rb Rc Rd ha hb hc hd b1 b4 b7 b8
 go_enter Tryz.func78, Tryz.ntmps78
 go_wp2
 go_ret
 refine ⟨⟨_, rfl, ?_⟩, _, rfl⟩
 obtain ⟨hx, Ra, Rb, Rc, Rd⟩ := H.out
 rw [E.out]
 exact hx
set_option maxRecDepth 100000 in
set_option maxHeartbeats 2000000 in
theorem k78_i {x : Nat} {X : Int} (hx : RV x X) (a b c d : Nat) (ha : U a) (hb : U b) (hc : U c) (hd : U d) (p q r s : Nat) (before : Bool) (w : World) (kp : w.cell? ⟨p, 0, none⟩ = some (.float .f64 a)) (kq : w.cell? ⟨q, 0, none⟩ = some (.float .f64 b)) (kr : w.cell? ⟨r, 0, none⟩ = some (.float .f64 c)) (ks : w.cell? ⟨s, 0, none⟩ = some (.float .f64 d)) (b1 : fltP X 0 = false) (b4 : fltP (iP 1) X = false) (b7 : feqP X 0 = false) (b8 : feqP X (iP 1) = false) :
  Calls Tryz.prog 78 #[.float .f64 x, .bool before, .pointer (some ⟨p, 0, none⟩), .pointer (some ⟨q, 0, none⟩), .pointer (some ⟨r, 0, none⟩), .pointer (some ⟨s, 0, none⟩)] w fun e w' => RetR (bentP (pl a) (pl b) (pl c) (pl d) X) e ∧ ∃ n, w' = w.drewN n := by
 have hA := fun x y w => run_fop (P := Tryz.prog) .add rfl 31 x y w
 have hS := fun x y w => run_fop (P := Tryz.prog) .sub rfl 31 x y w
 have hM := fun x y w => run_fop (P := Tryz.prog) .mul rfl 31 x y w
 have hQ := fun x y w => run_fop (P := Tryz.prog) .quo rfl 31 x y w
 have kp' : ∀ n, (w.drewN n).cell? ⟨p, 0, none⟩ = some (.float .f64 a) := fun _ => kp
 have kq' : ∀ n, (w.drewN n).cell? ⟨q, 0, none⟩ = some (.float .f64 b) := fun _ => kq
 have kr' : ∀ n, (w.drewN n).cell? ⟨r, 0, none⟩ = some (.float .f64 c) := fun _ => kr
 have ks' : ∀ n, (w.drewN n).cell? ⟨s, 0, none⟩ = some (.float .f64 d) := fun _ => ks
 have Ra := RV.self ha
 have Rb := RV.self hb
 have Rc := RV.self hc
 have Rd := RV.self hd
 have q1 := RV.lt hx zero_RV
 have q2 := RV.gt Ra zero_RV
 have q3 := RV.gt Rc zero_RV
 have q4 := RV.gt hx one_RV
 have q5 := RV.lt Rc one_RV
 have q6 := RV.lt Ra one_RV
 have q7 := RV.eq_ hx zero_RV
 have q8 := RV.eq_ hx one_RV
 rw [b1] at q1
 rw [b4] at q4
 rw [b7] at q7
 rw [b8] at q8
 clear q2 q3 q5 q6
 have E := Lib.hid (show bentP (pl a) (pl b) (pl c) (pl d) X = bezP (pl b) (pl d) (halfP (bisP (pl a) (pl c) X 50 (0, iP 1)).1 (bisP (pl a) (pl c) X 50 (0, iP 1)).2) by
  unfold bentP
  rw [if_neg (by rw [b1]; decide), if_neg (by rw [b4]; decide), if_neg (by rw [b7, b8]; simp)])
 have H := Lib.hid (And.intro hx (And.intro Ra (And.intro Rb (And.intro Rc Rd))))
 clear hx Ra Rb Rc Rd ha hb hc hd b1 b4 b7 b8
 have H1 := Lib.hid (fun (l h : Nat) (hl : U l ∧ U h) (w1 : World) => RV.fop .quo (RV.fop .add (RV.self hl.1) (RV.self hl.2) w1) two_RV w1)
 have BZ := Lib.hid (fun (t : Nat) (T : Int) (ht : RV t T) (w1 : World) => k79 H.out.2.1 H.out.2.2.2.1 ht w1)
 have BY := Lib.hid (fun (t : Nat) (T : Int) (ht : RV t T) (w1 : World) => k79 H.out.2.2.1 H.out.2.2.2.2 ht w1)
 go_enter Tryz.func78, Tryz.ntmps78
 go_wp2_with fail
 go_loopw [10, 11, 83] (fun u v i wx => ∃ (l h k : Nat), k ≤ 50 ∧ u = .float .f64 l ∧ v = .float .f64 h ∧ i = .int .i64 k ∧ Hid (RV l (bisP (pl a) (pl c) X k (0, iP 1)).1 ∧ RV h (bisP (pl a) (pl c) X k (0, iP 1)).2) ∧ Hid (∃ n, wx = w.drewN n)) (fun _ _ i _ => 50 - (Lib.intOf i).toNat)
 case atStart => exact ⟨0, 4607182418800017408, 0, by omega, rfl, rfl, rfl, Lib.hid ⟨zero_RV, one_RV⟩, Lib.hid ⟨_, rfl⟩⟩
 case round =>
  obtain ⟨l, h, k, hk, rfl, rfl, rfl, hlh, hw⟩ := hrel
  obtain ⟨n0, rfl⟩ := hw.out
  by_cases hlt : k < 50
  ·have hki : (k : Int) < 50 := by omega
   have HT : Hid (∀ w1 w2 : World, RV (fop .quo (fop .add l h w1) 4611686018427387904 w2) (halfP (bisP (pl a) (pl c) X k (0, iP 1)).1 (bisP (pl a) (pl c) X k (0, iP 1)).2)) := Lib.hid (fun w1 w2 => RV.fop .quo (RV.fop .add hlh.out.1 hlh.out.2 w1) two_RV w2)
   have HK := Lib.hid (And.intro hlt (bis_succ (pl a) (pl c) X k (0, iP 1)))
   have HX := Lib.hid H.out.1
   clear hk hlt
   go_upto_region 20 with fail
   generalize ht : fop .quo (fop .add l h _) 4611686018427387904 _ = t
   have HTt := Lib.hid (show RV t (halfP (bisP (pl a) (pl c) X k (0, iP 1)).1 (bisP (pl a) (pl c) X k (0, iP 1)).2) by rw [← ht]; exact HT.out _ _)
   refine wp_genB (fun wx => ∃ n, wx = w.drewN n) ⟨_, rfl⟩ ?_
   rintro wx ⟨n1, rfl⟩
   obtain ⟨S, hS0⟩ : ∃ S, S = bisP (pl a) (pl c) X k (0, iP 1) := ⟨_, rfl⟩
   rw [← hS0] at HTt HK
   have hlh2 := hlh
   rw [← hS0] at hlh2
   clear ht HT hlh hS0
   cases bb : fltP (bezP (pl a) (pl c) (halfP S.1 S.2)) X
   ·go_wp2_with (go_at_call 79; refine (BZ.out _ _ HTt.out _).mono ?_; rintro e w' ⟨⟨z, rfl, hz⟩, n, rfl⟩; have L := RV.lt hz HX.out; rw [bb] at L; clear hz)
    go_roundw
    case rel => exact ⟨_, _, k + 1, by have := HK.out.1; omega, rfl, rfl, by go_num, Lib.hid (by rw [HK.out.2]; unfold bisS; rw [if_neg (by rw [bb]; decide)]; exact ⟨hlh2.out.1, HTt.out⟩), Lib.hid ⟨_, rfl⟩⟩
    case measure => have := HK.out.1; simp [Lib.intOf]; omega
   ·go_wp2_with (go_at_call 79; refine (BZ.out _ _ HTt.out _).mono ?_; rintro e w' ⟨⟨z, rfl, hz⟩, n, rfl⟩; have L := RV.lt hz HX.out; rw [bb] at L; clear hz)
    go_roundw
    case rel => exact ⟨_, _, k + 1, by have := HK.out.1; omega, rfl, rfl, by go_num, Lib.hid (by rw [HK.out.2]; unfold bisS; rw [if_pos bb]; exact ⟨HTt.out, hlh2.out.2⟩), Lib.hid ⟨_, rfl⟩⟩
    case measure => have := HK.out.1; simp [Lib.intOf]; omega
  ·have hki : ¬ (k : Int) < 50 := by omega
   have e : k = 50 := by omega
   subst e
   clear hk hlt hki
   have HT : Hid (∀ w1 w2 : World, RV (fop .quo (fop .add l h w1) 4611686018427387904 w2) (halfP (bisP (pl a) (pl c) X 50 (0, iP 1)).1 (bisP (pl a) (pl c) X 50 (0, iP 1)).2)) := Lib.hid (fun w1 w2 => RV.fop .quo (RV.fop .add hlh.out.1 hlh.out.2 w1) two_RV w2)
   go_wp2_with (go_at_call 79; refine (BY.out _ _ (HT.out _ _) _).mono ?_; rintro e w' ⟨⟨z, rfl, hz⟩, n, rfl⟩; have Z := Lib.hid hz; clear hz)
   go_ret
   exact ⟨⟨z, rfl, by rw [E.out]; exact Z.out⟩, _, rfl⟩
theorem k78 {x : Nat} {X : Int} (hx : RV x X) (a b c d : Nat) (ha : U a) (hb : U b) (hc : U c) (hd : U d) (p q r s : Nat) (before : Bool) (w : World) (kp : w.cell? ⟨p, 0, none⟩ = some (.float .f64 a)) (kq : w.cell? ⟨q, 0, none⟩ = some (.float .f64 b)) (kr : w.cell? ⟨r, 0, none⟩ = some (.float .f64 c)) (ks : w.cell? ⟨s, 0, none⟩ = some (.float .f64 d)) :
  Calls Tryz.prog 78 #[.float .f64 x, .bool before, .pointer (some ⟨p, 0, none⟩), .pointer (some ⟨q, 0, none⟩), .pointer (some ⟨r, 0, none⟩), .pointer (some ⟨s, 0, none⟩)] w fun e w' => RetR (bentP (pl a) (pl b) (pl c) (pl d) X) e ∧ ∃ n, w' = w.drewN n := by
 cases b1 : fltP X 0
 ·cases b4 : fltP (iP 1) X
  ·cases b7 : feqP X 0
   ·cases b8 : feqP X (iP 1)
    ·exact k78_i hx a b c d ha hb hc hd p q r s before w kp kq kr ks b1 b4 b7 b8
    ·exact k78_h hx a b c d ha hb hc hd p q r s before w kp kq kr ks b1 b4 b7 b8
   ·exact k78_g hx a b c d ha hb hc hd p q r s before w kp kq kr ks b1 b4 b7
  ·cases b5 : fltP (pl c) (iP 1)
   ·cases b6 : fltP (pl a) (iP 1)
    ·exact k78_f hx a b c d ha hb hc hd p q r s before w kp kq kr ks b1 b4 b5 b6
    ·exact k78_e hx a b c d ha hb hc hd p q r s before w kp kq kr ks b1 b4 b5 b6
   ·exact k78_d hx a b c d ha hb hc hd p q r s before w kp kq kr ks b1 b4 b5
 ·cases b2 : fltP 0 (pl a)
  ·cases b3 : fltP 0 (pl c)
   ·exact k78_c hx a b c d ha hb hc hd p q r s before w kp kq kr ks b1 b2 b3
   ·exact k78_b hx a b c d ha hb hc hd p q r s before w kp kq kr ks b1 b2 b3
  ·exact k78_a hx a b c d ha hb hc hd p q r s before w kp kq kr ks b1 b2
end Go.Proofs.YtlgencbldbpbdaaGreatDoor
namespace Go.Proofs.YtlgencbldbpbdaaGreatDoor
open Go.RowKit Fl
theorem drewN_below (B : Nat) (w : World) (n : Nat) : Below B w (w.drewN n) := Bdn (Below.refl B w) n
set_option maxRecDepth 100000 in
theorem k94 {x : Nat} {X : Int} (hx : RV x X) (p A n c : Nat) (before : Bool) (rs : List (Int × Int)) (w : World) (kp : w.cell? ⟨p, 0, none⟩ = some (.slice (some ⟨A, 0, none⟩) n c)) (hP : PR w A rs) (hl : rs.length = n) (h2 : 2 ≤ n) (hn : n ≤ 1000) :
  Calls Tryz.prog 94 #[.float .f64 x, .bool before, .pointer (some ⟨p, 0, none⟩)] w fun e w' => RetR (alongP rs X) e ∧ Below w.heap.size w w' := by
 subst hl
 have C := Lib.hid (k95 hx A rs c w hP h2 hn)
 clear hP h2 hn
 go_enter Tryz.func94, Tryz.ntmps94
 go_wp2_with (go_at_call 95; refine C.out.mono ?_; rintro e w2 ⟨⟨r, rfl, hr⟩, hb⟩; have HR := Lib.hid (And.intro hr hb); clear hr hb)
 go_ret
 exact ⟨⟨r, rfl, HR.out.1⟩, HR.out.2⟩
set_option maxRecDepth 100000 in
theorem k38 {x : Nat} {X : Int} (hx : RV x X) (before : Bool) (w : World) :
  Calls Tryz.prog 38 #[.float .f64 x, .bool before] w fun e w' => RetR X e ∧ Below w.heap.size w w' := by
 go_enter Tryz.func38, Tryz.ntmps38
 go_wp2_with fail
 go_ret
 exact ⟨⟨x, rfl, hx⟩, Below.refl _ _⟩
theorem k80 {x : Nat} {X : Int} (hx : RV x X) (n j : Nat) (j1 : 1 ≤ j) (j4 : j ≤ 4) {mw : Nat} (hm : RV mw (mP n j)) (bn bj bm : Nat) (before : Bool) (w : World)
  (kn : w.cell? ⟨bn, 0, none⟩ = some (.int .i64 n)) (kj : w.cell? ⟨bj, 0, none⟩ = some (.int .i64 j)) (km : w.cell? ⟨bm, 0, none⟩ = some (.float .f64 mw)) :
  Calls Tryz.prog 80 #[.float .f64 x, .bool before, .pointer (some ⟨bn, 0, none⟩), .pointer (some ⟨bj, 0, none⟩), .pointer (some ⟨bm, 0, none⟩)] w fun e w' => RetR (stepsP n j X before) e ∧ ∃ q, w' = w.drewN q := by
 have hj : j = 1 ∨ j = 2 ∨ j = 3 ∨ j = 4 := by omega
 rcases hj with rfl | rfl | rfl | rfl <;> cases before
 ·exact k80_1f hx n hm bn bj bm w kn kj km
 ·exact k80_1t hx n hm bn bj bm w kn kj km
 ·exact k80_2f hx n hm bn bj bm w kn kj km
 ·exact k80_2t hx n hm bn bj bm w kn kj km
 ·exact k80_3f hx n hm bn bj bm w kn kj km
 ·exact k80_3t hx n hm bn bj bm w kn kj km
 ·exact k80_4f hx n hm bn bj bm w kn kj km
 ·exact k80_4t hx n hm bn bj bm w kn kj km
def atN (z : Ez) (x : Int) (before : Bool) : Int :=
 match z with
 | .line => x
 | .curve a b c d => bentP (pl a) (pl b) (pl c) (pl d) x
 | .steps n j => stepsP n j x before
 | .pts l => alongP (rowsP l) x
theorem atN_eq (z : Ez) {x : Int} (h : ¬ x = 9223372036854775807) (before : Bool) : atP z x before = atN z x before := by
 unfold atP atN
 rw [if_neg h]
 cases z <;> rfl
set_option maxRecDepth 100000 in
theorem k15n {x : Nat} {X : Int} (hx : RV x X) (hX : feqP X X = false) (p : Option Addr) (before : Bool) (w : World) :
  Calls Tryz.prog 15 #[.pointer p, .float .f64 x, .bool before] w fun e w' => RetR 9223372036854775807 e ∧ Below w.heap.size w w' := by
 have q1 := f_ne x x hx.1 hx.1
 rw [hx.2, hX] at q1
 have C := Lib.hid (c135 w)
 go_enter Tryz.func15, Tryz.ntmps15
 go_wp2_with (go_at_call 48; refine C.out.mono ?_; rintro e w2 ⟨rfl, rfl⟩)
 go_ret
 exact ⟨⟨QN, rfl, U_QN, pl_QN⟩, Below.refl _ _⟩
set_option maxRecDepth 100000 in
theorem k15_line {x : Nat} {X : Int} (hx : RV x X) (hX : feqP X X = true) (b : Nat) (before : Bool) (w : World)  (kb : w.cell? ⟨b, 1, none⟩ = some (.func (.func 38) #[] #[])) :
  Calls Tryz.prog 15 #[.pointer (some ⟨b, 0, none⟩), .float .f64 x, .bool before] w fun e w' => RetR (X) e ∧ Below w.heap.size w w' := by
 have q1 := f_ne x x hx.1 hx.1
 rw [hx.2, hX] at q1
 obtain ⟨R, hR0⟩ : ∃ R, R = X := ⟨_, rfl⟩
 have C : Hid (Calls Tryz.prog 38 #[.float .f64 x, .bool before] w fun e w' => RetR R e ∧ Below w.heap.size w w') := Lib.hid (by rw [hR0]; exact k38 hx before w)
 rw [← hR0]
 clear hR0
 go_enter Tryz.func15, Tryz.ntmps15
 go_wp2_with (go_at_call 38; refine C.out.mono ?_; rintro e w2 ⟨⟨r, rfl, hr⟩, hb⟩; have HR := Lib.hid (And.intro hr hb); clear hr hb)
 go_ret
 exact ⟨⟨r, rfl, HR.out.1⟩, HR.out.2⟩
set_option maxRecDepth 100000 in
theorem k15_curve {x : Nat} {X : Int} (hx : RV x X) (hX : feqP X X = true) (b : Nat) (before : Bool) (w : World) (a b1 c d : Nat) (ha : U a) (hb : U b1) (hc : U c) (hd : U d) (p q r s : Nat) (kp : w.cell? ⟨p, 0, none⟩ = some (.float .f64 a)) (kq : w.cell? ⟨q, 0, none⟩ = some (.float .f64 b1)) (kr : w.cell? ⟨r, 0, none⟩ = some (.float .f64 c)) (ks : w.cell? ⟨s, 0, none⟩ = some (.float .f64 d)) (kb : w.cell? ⟨b, 1, none⟩ = some (.func (.func 78) #[] #[ptr p, ptr q, ptr r, ptr s])) :
  Calls Tryz.prog 15 #[.pointer (some ⟨b, 0, none⟩), .float .f64 x, .bool before] w fun e w' => RetR (bentP (pl a) (pl b1) (pl c) (pl d) X) e ∧ Below w.heap.size w w' := by
 have q1 := f_ne x x hx.1 hx.1
 rw [hx.2, hX] at q1
 obtain ⟨R, hR0⟩ : ∃ R, R = bentP (pl a) (pl b1) (pl c) (pl d) X := ⟨_, rfl⟩
 have C : Hid (Calls Tryz.prog 78 #[.float .f64 x, .bool before, ptr p, ptr q, ptr r, ptr s] w fun e w' => RetR R e ∧ Below w.heap.size w w') := Lib.hid (by rw [hR0]; exact (k78 hx a b1 c d ha hb hc hd p q r s before w kp kq kr ks).mono (fun _ _ h => ⟨h.1, by obtain ⟨n, rfl⟩ := h.2; exact drewN_below _ _ _⟩))
 rw [← hR0]
 clear hR0 ha hb hc hd kp kq kr ks
 go_enter Tryz.func15, Tryz.ntmps15
 go_wp2_with (go_at_call 78; refine C.out.mono ?_; rintro e w2 ⟨⟨r, rfl, hr⟩, hb⟩; have HR := Lib.hid (And.intro hr hb); clear hr hb)
 go_ret
 exact ⟨⟨r, rfl, HR.out.1⟩, HR.out.2⟩
set_option maxRecDepth 100000 in
theorem k15_steps {x : Nat} {X : Int} (hx : RV x X) (hX : feqP X X = true) (b : Nat) (before : Bool) (w : World) (n j : Nat) (j1 : 1 ≤ j) (j4 : j ≤ 4) {mw : Nat} (hm : RV mw (mP n j)) (p q r : Nat) (kn : w.cell? ⟨p, 0, none⟩ = some (.int .i64 n)) (kj : w.cell? ⟨q, 0, none⟩ = some (.int .i64 j)) (km : w.cell? ⟨r, 0, none⟩ = some (.float .f64 mw)) (kb : w.cell? ⟨b, 1, none⟩ = some (.func (.func 80) #[] #[ptr p, ptr q, ptr r])) :
  Calls Tryz.prog 15 #[.pointer (some ⟨b, 0, none⟩), .float .f64 x, .bool before] w fun e w' => RetR (stepsP n j X before) e ∧ Below w.heap.size w w' := by
 have q1 := f_ne x x hx.1 hx.1
 rw [hx.2, hX] at q1
 obtain ⟨R, hR0⟩ : ∃ R, R = stepsP n j X before := ⟨_, rfl⟩
 have C : Hid (Calls Tryz.prog 80 #[.float .f64 x, .bool before, ptr p, ptr q, ptr r] w fun e w' => RetR R e ∧ Below w.heap.size w w') := Lib.hid (by rw [hR0]; exact (k80 hx n j j1 j4 hm p q r before w kn kj km).mono (fun _ _ h => ⟨h.1, by obtain ⟨n, rfl⟩ := h.2; exact drewN_below _ _ _⟩))
 rw [← hR0]
 clear hR0 j1 j4 hm kn kj km
 go_enter Tryz.func15, Tryz.ntmps15
 go_wp2_with (go_at_call 80; refine C.out.mono ?_; rintro e w2 ⟨⟨r, rfl, hr⟩, hb⟩; have HR := Lib.hid (And.intro hr hb); clear hr hb)
 go_ret
 exact ⟨⟨r, rfl, HR.out.1⟩, HR.out.2⟩
set_option maxRecDepth 100000 in
theorem k15_pts {x : Nat} {X : Int} (hx : RV x X) (hX : feqP X X = true) (b : Nat) (before : Bool) (w : World) (rs : List (Int × Int)) (p A n c : Nat) (kp : w.cell? ⟨p, 0, none⟩ = some (.slice (some ⟨A, 0, none⟩) n c)) (hP : PR w A rs) (hl : rs.length = n) (h2 : 2 ≤ n) (hn : n ≤ 1000) (kb : w.cell? ⟨b, 1, none⟩ = some (.func (.func 94) #[] #[ptr p])) :
  Calls Tryz.prog 15 #[.pointer (some ⟨b, 0, none⟩), .float .f64 x, .bool before] w fun e w' => RetR (alongP rs X) e ∧ Below w.heap.size w w' := by
 have q1 := f_ne x x hx.1 hx.1
 rw [hx.2, hX] at q1
 obtain ⟨R, hR0⟩ : ∃ R, R = alongP rs X := ⟨_, rfl⟩
 have C : Hid (Calls Tryz.prog 94 #[.float .f64 x, .bool before, ptr p] w fun e w' => RetR R e ∧ Below w.heap.size w w') := Lib.hid (by rw [hR0]; exact k94 hx p A n c before rs w kp hP hl h2 hn)
 rw [← hR0]
 clear hR0 kp hP hl h2 hn
 go_enter Tryz.func15, Tryz.ntmps15
 go_wp2_with (go_at_call 94; refine C.out.mono ?_; rintro e w2 ⟨⟨r, rfl, hr⟩, hb⟩; have HR := Lib.hid (And.intro hr hb); clear hr hb)
 go_ret
 exact ⟨⟨r, rfl, HR.out.1⟩, HR.out.2⟩
theorem k15 {x : Nat} {X : Int} (hx : RV x X) (b : Nat) (z : Ez) (before : Bool) (w : World) (hz : EzAt w b z) :
  Calls Tryz.prog 15 #[.pointer (some ⟨b, 0, none⟩), .float .f64 x, .bool before] w fun e w' => RetR (atP z X before) e ∧ Below w.heap.size w w' := by
 by_cases hX : X = 9223372036854775807
 ·have e : atP z X before = 9223372036854775807 := by unfold atP; rw [if_pos hX, hX]
  rw [e]
  exact k15n hx (by unfold feqP; rw [hX]; rfl) _ before w
 ·have hf : feqP X X = true := by unfold feqP; simp [hX]
  obtain ⟨-, s, v, -, -, kb, f⟩ := hz
  rw [atN_eq z hX]
  cases z with
  | line =>
    obtain rfl : v = .func (.func 38) #[] #[] := f
    exact k15_line hx hf b before w kb
  | curve a b1 c d =>
    obtain ⟨ha, hb, hc, hd, p, q, r, s, rfl, -, -, -, -, c1, c2, c3, c4⟩ := f
    exact k15_curve hx hf b before w a b1 c d ha hb hc hd p q r s c1 c2 c3 c4 kb
  | steps n j =>
    obtain ⟨-, -, j1, j4, p, q, r, m, rfl, -, -, -, c1, c2, c3, hm⟩ := f
    exact k15_steps hx hf b before w n j j1 j4 hm p q r c1 c2 c3 kb
  | pts l =>
    obtain ⟨p, A, n, c, rfl, -, lA, n2, nn, -, hl, c1, hk⟩ := f
    exact k15_pts hx hf b before w (rowsP l) p A n c c1 ⟨lA, hk⟩ hl n2 nn kb
end Go.Proofs.YtlgencbldbpbdaaGreatDoor
