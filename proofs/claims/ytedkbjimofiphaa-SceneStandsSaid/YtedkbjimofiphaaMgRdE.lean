/- galleyref20's beneath. beneath: one put into its place among its likes. galleyref20's beneath. -/
import Derived.Test.YtedkbjimofiphaaMgRdD
namespace Go.Proofs.Ytedkbjimofiphaa
open Go.RowKit Fl
/-- what beneath reads -/
structure BE (w : World) (gb gl gi n : Nat) (b : Nat → BX) (L : Nat → LK) (it : Nat → List Value) : Prop where
  rb : ∀ k, k < n → w.rangeAt gb (k * 7) (b k).cells
  rl : ∀ k, k < n → w.rangeAt gl (k * 54) (L k).cells
  ri : ∀ k, k < n → w.rangeAt gi (k * 23) (it k)
  l : gb < w.heap.size ∧ gl < w.heap.size ∧ gi < w.heap.size
theorem BE.below {w w' : World} {gb gl gi n : Nat} {b : Nat → BX} {L : Nat → LK} {it : Nat → List Value} (h : BE w gb gl gi n b L it) (hb : Below w.heap.size w w') : BE w' gb gl gi n b L it :=
  ⟨fun k hk => range_below (h.rb k hk) hb h.l.1, fun k hk => range_below (h.rl k hk) hb h.l.2.1, fun k hk => range_below (h.ri k hk) hb h.l.2.2, by have := hb.size; have := h.l; omega⟩
/-- of whom: -1 is of none -/
def paV : Option Nat → Int
  | some k => (k : Int)
  | none => -1
theorem abV_eq (b : Nat → BX) (i : Nat) (p : Option Nat) : (abV b i = paV p) ↔ abO b i = p := by
  unfold abV paV
  cases abO b i <;> cases p <;> simp <;> omega
theorem below_setCell_own {B : Nat} {w w' : World} {p : Addr} {v : Value} (h : Below B w w') (hp : B ≤ p.block) : Below B w (w'.setCell p v) := ((Keep.of_below (ex := fun _ => False) h).set p v (fun h => by omega)).below _ (Nat.le_refl _) (fun _ _ h => h)
/-- the kids so far, in their order -/
def KS (b : Nat → BX) (L : Nat → LK) (p : Option Nat) (i : Nat) : List Nat := stab (kf (lvO L)) (kids i (abO b) p)
structure BB1 (w0 w : World) (b : Nat → BX) (L : Nat → LK) (p : Option Nat) (i : Nat) (v : Value) : Prop where
  o : OI w w0.heap.size v (KS b L p i)
  bl : Below w0.heap.size w0 w
/-- while the items are told: j of the kids are done -/
structure BO (w0 w : World) (n : Nat) (b : Nat → BX) (L : Nat → LK) (it : Nat → List Value) (p : Option Nat) (rv ov : Value) (j m : Nat) : Prop where
  o : OI w w0.heap.size rv (KS b L p n)
  hm : m = (((KS b L p n).take j).flatMap (tr n (abO b) (kf (lvO L)))).length
  out : w.ownsRow w0.heap.size 60 23 ov m (((KS b L p n).take j).flatMap fun k => (tr n (abO b) (kf (lvO L)) k).flatMap it)
  bl : Below w0.heap.size w0 w
structure BO1 (w0 w : World) (n : Nat) (b : Nat → BX) (L : Nat → LK) (it : Nat → List Value) (p : Option Nat) (rv ov : Value) (j m x : Nat) : Prop where
  o : OI w w0.heap.size rv (KS b L p n)
  hm : m = (((KS b L p n).take j).flatMap (tr n (abO b) (kf (lvO L)))).length
  out : w.ownsRow w0.heap.size 60 23 ov (m + 1) ((((KS b L p n).take j).flatMap fun k => (tr n (abO b) (kf (lvO L)) k).flatMap it) ++ it x)
  bl : Below w0.heap.size w0 w
section
variable {w0 w w' : World} {n : Nat} {b : Nat → BX} {L : Nat → LK} {it : Nat → List Value} {p : Option Nat} {rv ov v' : Value} {j m m2 x : Nat}
theorem keep_row {g : Nat} {row : Option Nat} {rv : Value} {l : List Nat} (ho : OI w g rv l) (hk : w.grownBy w' row) (h : ∀ k, rv.ownBlock = some k → row ≠ some k) : OI w' g rv l :=
  owned_at ho fun k hk2 hl => hk.block k hl fun e => h k hk2 e.symm
theorem BO.told (h : BO w0 w n b L it p rv ov j m) (o : Obj) (hown : w'.ownsRow w0.heap.size 60 23 v' (m + 1) ((((KS b L p n).take j).flatMap fun k => (tr n (abO b) (kf (lvO L)) k).flatMap it) ++ it x)) (hg : (w.alloc o).grownBy w' ov.ownBlock) : BO1 w0 w' n b L it p rv v' j m x := by
  have oa : OI (w.alloc o) w0.heap.size rv (KS b L p n) := World.ownsRow.alloc h.o o
  have aa := World.ownsRow.alloc h.out o
  refine ⟨keep_row oa hg fun k hk e => owned_apart aa oa (by decide) k e hk, h.hm, hown, ?_⟩
  exact h.bl.trans (((Keep.of_below (ex := fun _ => False) ((Below.refl w.heap.size w).alloc (Nat.le_refl _) o)).mono h.bl.size (fun _ _ h => h)).below _ (Nat.le_refl _) (fun _ _ h => h) |>.trans ((Keep.of_grown (ex := fun _ => False) hg (by have := h.bl.size; simp; omega) (fun k hk => (World.ownsRow.lt aa k hk).1)).below _ (Nat.le_refl _) (fun _ _ h => h)))
theorem BO1.called (h : BO1 w0 w n b L it p rv ov j m x) (hb : Below w.heap.size w w') : BO1 w0 w' n b L it p rv ov j m x :=
  ⟨owned_at h.o fun k _ hl => hb.block k hl, h.hm, owned_at h.out fun k _ hl => hb.block k hl, h.bl.trans (hb.mono h.bl.size)⟩
theorem BO1.next (h : BO1 w0 w n b L it p rv ov j m x) (hx : (KS b L p n)[j]? = some x) (hm2 : m2 = ((KS b L (some x) n).flatMap (tr n (abO b) (kf (lvO L)))).length)
    (hown : w'.ownsRow w0.heap.size 60 23 v' (m + 1 + m2) (((((KS b L p n).take j).flatMap fun k => (tr n (abO b) (kf (lvO L)) k).flatMap it) ++ it x) ++ ((KS b L (some x) n).flatMap fun k => (tr n (abO b) (kf (lvO L)) k).flatMap it))) (hg : w.grownBy w' ov.ownBlock) : BO w0 w' n b L it p rv v' (j + 1) (m + 1 + m2) := by
  have H : ∀ i k, i < n → abO b i = some k → k < i := fun i k _ h => abO_lt h
  obtain ⟨hl, hx2⟩ := List.getElem?_eq_some_iff.1 hx
  have et : (KS b L p n).take (j + 1) = (KS b L p n).take j ++ [x] := by rw [List.take_succ_eq_append_getElem hl, hx2]
  have es := tr_step H (key := kf (lvO L)) x
  refine ⟨keep_row h.o hg fun k hk e => owned_apart h.out h.o (by decide) k e hk, ?_, ?_, ?_⟩
  · rw [et, List.flatMap_append, List.flatMap_cons, List.flatMap_nil, List.append_nil, es, List.length_append, List.length_cons, hm2, h.hm]
    unfold KS; omega
  · rw [et, List.flatMap_append, List.flatMap_cons, List.flatMap_nil, List.append_nil, es, List.flatMap_cons, List.flatMap_assoc, ← List.append_assoc]
    exact hown
  · exact h.bl.trans ((Keep.of_grown (ex := fun _ => False) hg h.bl.size (fun k hk => (World.ownsRow.lt h.out k hk).1)).below _ (Nat.le_refl _) (fun _ _ h => h))
end
theorem item_one {it : Nat → List Value} (h1 : ∀ k, ∀ u ∈ it k, u.oneCell' = true) (l : List Nat) (f : Nat → List Nat) : ∀ u ∈ l.flatMap (fun k => (f k).flatMap it), u.oneCell' = true := fun u hu => by
  obtain ⟨k, _, hu⟩ := List.mem_flatMap.1 hu
  obtain ⟨j, _, hu⟩ := List.mem_flatMap.1 hu
  exact h1 j u hu
def fromRegionL (n : Nat) : Code → Option (Code × Code)
  | .seq (.region m x y) b => if m = n then some (.region m x y, b) else fromRegionL n b
  | .seq a b => match fromRegionL n a with
    | some c => some c
    | none => fromRegionL n b
  | .block _ c => fromRegionL n c
  | .scope c => fromRegionL n c
  | .loop c => fromRegionL n c
  | .cond _ a b => match fromRegionL n a with
    | some c => some c
    | none => fromRegionL n b
  | _ => none
noncomputable def ta30 (n : Nat) : Code := ((Try.f30.body.bind (fromRegionL n)).getD (.skip, .skip)).1
noncomputable def tb30 (n : Nat) : Code := ((Try.f30.body.bind (fromRegionL n)).getD (.skip, .skip)).2
set_option maxRecDepth 100000 in
set_option maxHeartbeats 2000000 in
theorem tail12 {K0 : Act → World → Prop} {R : Ending → World → Prop} (hK0 : ∀ a w, Code.wp Try.prog (tb30 12) (bodyPost Try.prog Try.f30 R) a w → K0 a w) (gb gl gi n cb cl ci f k0 : Nat) (b : Nat → BX) (L : Nat → LK) (it : Nat → List Value) (w : World) (p : Option Nat) (hn : n ≤ 1048576)
    (HI : Hid ((∀ k, k < n → (L k).OK) ∧ (∀ k, (it k).length = 23) ∧ ∀ k, ∀ u ∈ it k, u.oneCell' = true)) (HB : Hid (BE w gb gl gi n b L it)) (HP : Hid ((n : Int) - paV p ≤ ((f + 1 : Nat) : Int) ∧ (∀ k, p = some k → k < n) ∧ paV p = (k0 : Int) - 1))
    (IH : Hid (∀ (w : World) (p : Option Nat), BE w gb gl gi n b L it → (n : Int) - paV p ≤ (f : Int) → (∀ k, p = some k → k < n) →
    Calls Try.prog 30 #[.slice (some ⟨gb, 0, none⟩) n cb, .slice (some ⟨gl, 0, none⟩) n cl, .slice (some ⟨gi, 0, none⟩) n ci, .int .i64 (paV p)] w
      fun e w' => ∃ ov, e = .returned ov ∧ w'.ownsRow w.heap.size 60 23 ov ((KS b L p n).flatMap (tr n (abO b) (kf (lvO L)))).length ((KS b L p n).flatMap fun k => (tr n (abO b) (kf (lvO L)) k).flatMap it) ∧ Below w.heap.size w w')) (wr : World) (pr : Option Addr) (cr : Nat) (u3 u4 u5 u6 u7 u8 u10 u11 u12 u13 u14 u15 u16 u17 u18 u19 u20 u21 u22 u23 u24 u25 u26 u27 u28 u29 u30 u31 u32 u33 u34 u35 u36 u37 u38 u39 u40 u41 u42 u43 u44 u45 u46 u47 u48 u49 u50 u51 u52 u53 u54 u55 u56 u57 u58 u59 u60 u61 u62 u63 u64 u65 u66 u67 u68 u69 u70 u71 u72 u73 u74 u75 u76 u77 u78 u79 u80 u81 u82 u83 u84 u85 u86 u87 u88 u89 u90 u91 u92 : Value)
    (HQ : Hid (BB1 w wr b L p n (.slice pr (KS b L p n).length cr)))
    (hfin : ∀ ov w', w'.ownsRow w.heap.size 60 23 ov ((KS b L p n).flatMap (tr n (abO b) (kf (lvO L)))).length ((KS b L p n).flatMap fun k => (tr n (abO b) (kf (lvO L)) k).flatMap it) ∧ Below w.heap.size w w' → R (.returned ov) w') : Code.wp Try.prog (ta30 12) (Exit.then K0 (bodyPost Try.prog Try.f30 R)) ⟨List.toArray (.slice (some ⟨gb, 0, none⟩) n cb :: .slice (some ⟨gl, 0, none⟩) n cl :: .slice (some ⟨gi, 0, none⟩) n ci :: u3 :: u4 :: u5 :: u6 :: u7 :: u8 :: .slice pr (KS b L p n).length cr :: u10 :: u11 :: u12 :: u13 :: u14 :: u15 :: u16 :: u17 :: u18 :: u19 :: u20 :: u21 :: u22 :: u23 :: u24 :: u25 :: u26 :: u27 :: u28 :: u29 :: u30 :: u31 :: u32 :: u33 :: u34 :: u35 :: u36 :: u37 :: u38 :: u39 :: u40 :: u41 :: u42 :: u43 :: u44 :: u45 :: u46 :: u47 :: u48 :: u49 :: u50 :: u51 :: u52 :: u53 :: u54 :: u55 :: u56 :: u57 :: u58 :: u59 :: u60 :: u61 :: u62 :: u63 :: u64 :: u65 :: u66 :: u67 :: u68 :: u69 :: u70 :: u71 :: u72 :: u73 :: u74 :: u75 :: u76 :: u77 :: u78 :: u79 :: u80 :: u81 :: u82 :: u83 :: u84 :: u85 :: u86 :: u87 :: u88 :: u89 :: u90 :: u91 :: u92 :: []), []⟩ wr := by
  have HF := Lib.hid hfin
  clear hfin
  conv => arg 2; whnf
  obtain ⟨i6, hi60, hz1, hz2⟩ : ∃ i0, Try.prog.info? 60 = some i0 ∧ i0.size = 23 ∧ i0.bytes = 176 := by
    have h := info60
    cases hx : Try.prog.info? 60 with
    | none => rw [hx] at h; cases h
    | some i0 => rw [hx] at h; simp at h; exact ⟨i0, rfl, h.1, h.2⟩
  obtain ⟨z6, hz0, hz3⟩ : ∃ z, i6.zero = some z ∧ z.cells.size = 23 := by
    have h := zero60
    rw [hi60, Option.bind_some] at h
    cases hx : i6.zero with
    | none => rw [hx] at h; cases h
    | some z => rw [hx] at h; exact ⟨z, rfl, by simpa using h⟩
  have H6 := Lib.hid (And.intro hi60 (And.intro hz0 (And.intro hz1 (And.intro hz2 hz3))))
  have HR := Lib.hid (show ∀ (x : Nat), x ∈ KS b L p n → x < n ∧ abO b x = p from fun x hx => mem_kids.1 (mem_stab.1 hx))
  have hkl : (KS b L p n).length ≤ n := by
    unfold KS
    rw [stab_length]
    have h1 := List.length_filter_le (fun j => abO b j == p) (List.range n)
    rw [List.length_range] at h1
    exact h1
  have BO0 := Lib.hid (show BO w wr n b L it p (.slice pr (KS b L p n).length cr) (.slice none 0 0) 0 0 from ⟨HQ.out.o, rfl, World.ownsRow_nil .., HQ.out.bl⟩)
  clear hi60 hz0 hz1 hz2 hz3
  go_wp2_with fail
  conv => arg 2; whnf
  go_wp2_with fail
  go_loopw [12, 13] (fun ov jj wx => ∃ j m : Nat, jj = .int .i64 (j : Int) ∧ j ≤ (KS b L p n).length ∧ Hid (BO w wx n b L it p (.slice pr (KS b L p n).length cr) ov j m)) (fun _ jj _ => (KS b L p n).length - (intOf jj).toNat)
  case atStart => exact ⟨0, 0, rfl, Nat.zero_le _, BO0⟩
  case round =>
    obtain ⟨j, m, rfl, hj, hB⟩ := hrel
    obtain ⟨po, co, rfl, -⟩ := owned_slice hB.out.out
    by_cases hlj : j < (KS b L p n).length
    · obtain ⟨x, hx⟩ : ∃ x, (KS b L p n)[j]? = some x := ⟨_, List.getElem?_eq_getElem hlj⟩
      have HX := Lib.hid hx
      obtain ⟨hxi, hxp⟩ := HR.out x (List.mem_of_getElem? hx)
      have HXP := Lib.hid hxp
      obtain ⟨g, rfl, -, -⟩ := owned_some hB.out.o (by omega)
      obtain ⟨cx, -⟩ := OI.cell hB.out.o hx
      have hjl : (j : Int) < ((KS b L p n).length : Int) := by omega
      have hxl : (x : Int) < (n : Int) := by omega
      have dj : decide ((j : Int) < ((KS b L p n).length : Int)) = true := decide_eq_true hjl
      have FT := Lib.hid (show m + 1 + ((KS b L (some x) n).flatMap (tr n (abO b) (kf (lvO L)))).length ≤ n by
        rw [hB.out.hm]
        exact flat_take (key := kf (lvO L)) (fun i k _ h => abO_lt h) p hx)
      have RNG := Lib.hid ((HB.out.below hB.out.bl).ri x hxi)
      have LI := Lib.hid (HI.out.2.1 x)
      have SZ2 := Lib.hid (show (Try.prog.info? 60).map (·.size) = some (it x).length by rw [H6.out.1, LI.out]; exact congrArg some H6.out.2.2.1)
      have CSZ := Lib.hid (show ((Try.prog.info? 60).map (·.size) = some 23) ∧ (((Try.prog.info? 60).bind (·.zero)).isSome = true) by rw [H6.out.1]; exact ⟨congrArg some H6.out.2.2.1, by rw [Option.bind_some, H6.out.2.1]; rfl⟩)
      have V1 := Lib.hid (show ∀ v ∈ [Value.agg (it x).toArray], v.cells.size = 23 from fun v hv => by rw [List.mem_singleton.1 hv]; show (it x).toArray.size = 23; rw [List.size_toArray]; exact LI.out)
      have NC := Lib.hid (new_cells wr (it x) 60 LI.out)
      have OA := Lib.hid (World.ownsRow.alloc hB.out.out (.cells ([Value.agg (it x).toArray].flatMap fun v => v.cells.toList).toArray 60))
      clear hx hxp
      go_upto_region 16 with fail
      go_wp2_with (first
        | (refine wpList_load_mid rfl 60 (.tmp 78) rfl gi (x * 23) rfl (it x) _ RNG.out Try.underlying60 rfl SZ2.out ?_)
        | (refine Go.Great.wpList_buildRows rfl 36 60 #[(0, .tmp 79)] 23 [.agg (it x).toArray] rfl (fun _ => 79) wr.heap.size rfl (some 80) rfl Try.underlying36 CSZ.out.1 CSZ.out.2 (by decide) (Nat.succ_pos 0) (show 1 * 23 ≤ 2 ^ 24 by decide) rfl V1.out (fun k hk => by match k, hk with | 0, _ => rfl) ?_)
        | (at_builtin; refine wpList_append_strong rfl _ _ 36 rfl w.heap.size 60 i6 z6 23 176 Try.underlying36 H6.out.1 H6.out.2.1 H6.out.2.2.1 H6.out.2.2.2.1 H6.out.2.2.2.2 (by decide) _ _ _ rfl OA.out ⟨wr.heap.size, 0, none⟩ 1 1 (it x) rfl ?c0 NC.out ?c2 ?c3 ?c4 ?c5 (by decide) ?_))
      case c0 => rw [LI.out]
      case c2 => exact HI.out.2.2 x
      case c3 => have := FT.out; unfold maxLen; omega
      case c4 => have := FT.out; omega
      case c5 => have := hB.out.bl.size; simp; omega
      intro v3 w3 hown hgrow hblk
      have B1 := Lib.hid (hB.out.told _ hown hgrow)
      obtain ⟨p3, c3, rfl, -⟩ := owned_slice hown
      clear hown hgrow hblk OA NC V1 CSZ SZ2 RNG cx
      have BEn := HB.out.below B1.out.bl
      obtain ⟨cx3, -⟩ := OI.cell B1.out.o HX.out
      have IC := Lib.hid (show Calls Try.prog 30 #[.slice (some ⟨gb, 0, none⟩) n cb, .slice (some ⟨gl, 0, none⟩) n cl, .slice (some ⟨gi, 0, none⟩) n ci, .int .i64 (x : Int)] w3 _ from IH.out w3 (some x) BEn (by
        show (n : Int) - (x : Int) ≤ _
        have h1 := HP.out.1
        cases p with
        | none => have : paV none = -1 := rfl; omega
        | some k => have : paV (some k) = (k : Int) := rfl; have := abO_lt HXP.out; omega) (fun k hk => by injection hk with hk; omega))
      clear BEn
      go_wp2_with fail
      go_at_call 30
      refine IC.out.mono fun e w4 ⟨ov4, he, ho4, hb4⟩ => ?_
      subst he
      have B2 := Lib.hid (B1.out.called hb4)
      have ON := Lib.hid (item_one HI.out.2.2 (KS b L (some x) n) (tr n (abO b) (kf (lvO L))))
      obtain ⟨m2, hm2⟩ : ∃ m2, m2 = ((KS b L (some x) n).flatMap (tr n (abO b) (kf (lvO L)))).length := ⟨_, rfl⟩
      obtain ⟨L2, hL2⟩ : ∃ L2, L2 = ((KS b L (some x) n).flatMap fun k => (tr n (abO b) (kf (lvO L)) k).flatMap it) := ⟨_, rfl⟩
      obtain ⟨L1, hL1⟩ : ∃ L1, L1 = (((KS b L p n).take j).flatMap fun k => (tr n (abO b) (kf (lvO L)) k).flatMap it) ++ it x := ⟨_, rfl⟩
      have HO4 := Lib.hid (show w4.ownsRow w3.heap.size 60 23 ov4 m2 L2 by rw [hm2, hL2]; exact ho4)
      have HO2 := Lib.hid (show w4.ownsRow w.heap.size 60 23 (.slice p3 (m + 1) c3) (m + 1) L1 by rw [hL1]; exact B2.out.out)
      have HN := Lib.hid (And.intro hm2 (And.intro hL2 hL1))
      have FT2 := Lib.hid (show m + 1 + m2 ≤ n by rw [hm2]; exact FT.out)
      have ON := Lib.hid (show ∀ u ∈ L2, u.oneCell' = true by rw [hL2]; exact ON.out)
      clear ho4 hb4 IC cx3 hm2 hL2 hL1
      go_wp2_with (at_builtin; refine wpList_append_row rfl _ _ 36 rfl w.heap.size w3.heap.size 60 i6 z6 23 176 Try.underlying36 H6.out.1 H6.out.2.1 H6.out.2.2.1 H6.out.2.2.2.1 H6.out.2.2.2.2 (by decide) _ _ _ _ _ _ rfl HO2.out rfl HO4.out ON.out ?f3 ?f4 ?f5 ?_)
      case f3 => have := FT2.out; unfold maxLen; omega
      case f4 => have := FT2.out; omega
      case f5 => exact B2.out.bl.size
      intro v5 w5 hown hgrow
      have B3 := Lib.hid (B2.out.next HX.out HN.out.1 (by rw [HN.out.2.1, HN.out.2.2] at hown; exact hown) hgrow)
      obtain ⟨p5, c5, rfl, -⟩ := owned_slice hown
      clear hown hgrow HO4 ON
      go_wp2_with fail
      go_roundw
      case rel => exact ⟨j + 1, _, by go_num, by omega, B3⟩
      case measure => simp [intOf]; omega
    · have ej : j = (KS b L p n).length := by omega
      have dj : decide ((j : Int) < ((KS b L p n).length : Int)) = false := decide_eq_false (by omega)
      have FIN := Lib.hid (show wr.ownsRow w.heap.size 60 23 (.slice po m co) ((KS b L p n).flatMap (tr n (abO b) (kf (lvO L)))).length ((KS b L p n).flatMap fun k => (tr n (abO b) (kf (lvO L)) k).flatMap it) ∧ Below w.heap.size w wr from by
        have hm := hB.out.hm
        have ho := hB.out.out
        rw [ej, List.take_length] at hm ho
        rw [← hm]
        exact ⟨ho, hB.out.bl⟩)
      clear ej hB
      go_wp2_with fail
      exact HF.out _ _ FIN.out
end Go.Proofs.Ytedkbjimofiphaa

namespace Go.Proofs.Ytedkbjimofiphaa
open Go.RowKit Fl
set_option maxRecDepth 100000 in
set_option maxHeartbeats 2000000 in
theorem tail7 {Q : Exit → Act → World → Prop} {K0 : Act → World → Prop} (hK0 : ∀ a w, Code.wp Try.prog (tb30 7) Q a w → K0 a w) (gb gl gi n cb cl ci f k0 : Nat) (b : Nat → BX) (L : Nat → LK) (it : Nat → List Value) (w : World) (p : Option Nat) (hn : n ≤ 1048576)
    (HI : Hid ((∀ k, k < n → (L k).OK) ∧ (∀ k, (it k).length = 23) ∧ ∀ k, ∀ u ∈ it k, u.oneCell' = true)) (HB : Hid (BE w gb gl gi n b L it)) (HP : Hid ((n : Int) - paV p ≤ ((f + 1 : Nat) : Int) ∧ (∀ k, p = some k → k < n) ∧ paV p = (k0 : Int) - 1)) (i : Nat) (hlt : i < n) (HA : Hid (abO b i = p)) (w1 : World) (pr : Option Addr) (cr : Nat) (u3 u4 u5 u6 u7 u8 u12 u13 u14 u15 u16 u17 u18 u19 u20 u21 u22 u23 u24 u25 u26 u27 u28 u29 u30 u31 u32 u33 u34 u35 u36 u37 u38 u39 u40 u41 u42 u43 u44 u45 u46 u47 u48 u49 u50 u51 u52 u53 u54 u55 u56 u57 u58 u59 u60 u61 u62 u63 u64 u65 u66 u67 u68 u69 u70 u71 u72 u73 u74 u75 u76 u77 u78 u79 u80 u81 u82 u83 u84 u85 u86 u87 u88 u89 u90 u91 u92 : Value)
    (HQ : Hid (BB1 w w1 b L p i (.slice pr (KS b L p i).length cr)))
    (hfin : ∀ (v11 v29 v30 v31 v32 v33 v34 v35 v36 v37 v38 v39 v40 v41 v42 v43 v44 v45 v46 v47 v48 v49 v50 v51 v52 v53 v54 v55 v56 v57 v58 v59 v60 v61 v62 v63 v64 v65 rv : Value) (w' : World), Hid (BB1 w w' b L p (i + 1) rv) → Q .normal ⟨List.toArray (.slice (some ⟨gb, 0, none⟩) n cb :: .slice (some ⟨gl, 0, none⟩) n cl :: .slice (some ⟨gi, 0, none⟩) n ci :: u3 :: u4 :: u5 :: u6 :: u7 :: u8 :: rv :: .int .i64 (i : Int) :: v11 :: u12 :: u13 :: u14 :: u15 :: u16 :: u17 :: u18 :: u19 :: u20 :: u21 :: u22 :: u23 :: u24 :: u25 :: u26 :: u27 :: u28 :: v29 :: v30 :: v31 :: v32 :: v33 :: v34 :: v35 :: v36 :: v37 :: v38 :: v39 :: v40 :: v41 :: v42 :: v43 :: v44 :: v45 :: v46 :: v47 :: v48 :: v49 :: v50 :: v51 :: v52 :: v53 :: v54 :: v55 :: v56 :: v57 :: v58 :: v59 :: v60 :: v61 :: v62 :: v63 :: v64 :: v65 :: u66 :: u67 :: u68 :: u69 :: u70 :: u71 :: u72 :: u73 :: u74 :: u75 :: u76 :: u77 :: u78 :: u79 :: u80 :: u81 :: u82 :: u83 :: u84 :: u85 :: u86 :: u87 :: u88 :: u89 :: u90 :: u91 :: u92 :: []), []⟩ w') : Code.wp Try.prog (ta30 7) (Exit.then K0 Q) ⟨List.toArray (.slice (some ⟨gb, 0, none⟩) n cb :: .slice (some ⟨gl, 0, none⟩) n cl :: .slice (some ⟨gi, 0, none⟩) n ci :: u3 :: u4 :: u5 :: u6 :: u7 :: u8 :: .slice pr (KS b L p i).length cr :: .int .i64 (i : Int) :: .int .i64 ((KS b L p i).length : Int) :: u12 :: u13 :: u14 :: u15 :: u16 :: u17 :: u18 :: u19 :: u20 :: u21 :: u22 :: u23 :: u24 :: u25 :: u26 :: u27 :: u28 :: u29 :: u30 :: u31 :: u32 :: u33 :: u34 :: u35 :: u36 :: u37 :: u38 :: u39 :: u40 :: u41 :: u42 :: u43 :: u44 :: u45 :: u46 :: u47 :: u48 :: u49 :: u50 :: u51 :: u52 :: u53 :: u54 :: u55 :: u56 :: u57 :: u58 :: u59 :: u60 :: u61 :: u62 :: u63 :: u64 :: u65 :: u66 :: u67 :: u68 :: u69 :: u70 :: u71 :: u72 :: u73 :: u74 :: u75 :: u76 :: u77 :: u78 :: u79 :: u80 :: u81 :: u82 :: u83 :: u84 :: u85 :: u86 :: u87 :: u88 :: u89 :: u90 :: u91 :: u92 :: []), []⟩ w1 := by
  have HF := Lib.hid hfin
  clear hfin
  conv => arg 2; whnf
  have NC := Lib.hid (new_one w1 (iv i) 3)
  have OA := Lib.hid (World.ownsRow.alloc HQ.out.o (.cells #[iv i] 3))
  have hkl : (KS b L p i).length ≤ i := by
    unfold KS
    rw [stab_length]
    have h1 := List.length_filter_le (fun j => abO b j == p) (List.range i)
    rw [List.length_range] at h1
    have h2 : (kids i (abO b) p).length = ((List.range i).filter (fun j => abO b j == p)).length := rfl
    omega
  have HKL := Lib.hid hkl
  clear hkl
  obtain ⟨i0, hi30, hz0, hz1, hz2⟩ := info_parts info3
  have H3 := Lib.hid (And.intro hi30 (And.intro hz0 (And.intro hz1 hz2)))
  clear hi30 hz0 hz1 hz2
  go_wp2_with (at_builtin; refine wpList_append_strong rfl _ _ 58 rfl w.heap.size 3 i0 (.int .i64 0) 1 8 Try.underlying58 H3.out.1 H3.out.2.1 H3.out.2.2.1 H3.out.2.2.2 rfl (by decide) _ _ _ rfl OA.out ⟨w1.heap.size, 0, none⟩ 1 1 [iv i] rfl rfl NC.out (iv_one (l := [i])) ?d3 ?d4 ?d5 (by decide) ?_)
  case d3 => have := HKL.out; unfold maxLen; omega
  case d4 => have := HKL.out; omega
  case d5 => have := HQ.out.bl.size; simp; omega
  intro v2 w2 hown hgrow hblk
  have bl2 : Below w.heap.size w w2 := HQ.out.bl.trans (((Keep.of_below (ex := fun _ => False) ((Below.refl w1.heap.size w1).alloc (Nat.le_refl _) _)).mono HQ.out.bl.size (fun _ _ h => h)).below _ (Nat.le_refl _) (fun _ _ h => h) |>.trans ((Keep.of_grown (ex := fun _ => False) hgrow (by have := HQ.out.bl.size; simp; omega) (fun k hk => (World.ownsRow.lt HQ.out.o k hk).1)).below _ (Nat.le_refl _) (fun _ _ h => h)))
  have oi2 : OI w2 w.heap.size v2 (KS b L p i ++ [i]) := by
    unfold OI
    rw [List.length_append, List.map_append]
    exact hown
  have B2 := Lib.hid (And.intro bl2 (IP.start (key := kf (lvO L)) oi2))
  obtain ⟨g, c, rfl, g1, g2⟩ := B2.out.2.form
  have GG := Lib.hid (And.intro g1 g2)
  clear hown hgrow hblk OA NC bl2 oi2
  go_wp2_with fail
  conv => arg 2; whnf
  go_wp2_with fail
  go_loopw [11] (fun kk wx => ∃ k : Nat, kk = .int .i64 (k : Int) ∧ k ≤ (KS b L p i).length ∧ Hid (Below w.heap.size w wx ∧ IP wx w.heap.size (.slice (some ⟨g, 0, none⟩) ((KS b L p i).length + 1) c) (kf (lvO L)) (KS b L p i) i k)) (fun kk _ => (intOf kk).toNat)
  case atStart => exact ⟨_, rfl, Nat.le_refl _, B2⟩
  case round =>
    obtain ⟨k, rfl, hk, hJ⟩ := hrel
    cases k with
    | zero =>
      obtain ⟨⟨z, cz⟩, fz, mz, st⟩ := hJ.out.2.stop
      have ST := Lib.hid st
      have BL := Lib.hid hJ.out.1
      have KN := Lib.hid (show KS b L p (i + 1) = mg (kf (lvO L)) (KS b L p i) [i] from by
        unfold KS; rw [kids_succ, if_pos HA.out, stab_snoc])
      have LK1 := Lib.hid (show (KS b L p (i + 1)).length = (KS b L p i).length + 1 from by
        unfold KS; rw [kids_succ, if_pos HA.out, stab_length, stab_length]; simp)
      have FIN := Lib.hid (show ∀ q, BB1 w ((wr.drewN q).setCell ⟨g, 0, none⟩ (.int .i64 (i : Int))) b L p (i + 1) (.slice (some ⟨g, 0, none⟩) ((KS b L p i).length + 1) c) from fun q => ⟨by
        rw [KN.out]
        exact owned_at (w := wr.setCell ⟨g, 0, none⟩ (.int .i64 (i : Int))) ST.out fun _ _ _ => rfl, below_setCell_own (below_drewN BL.out) GG.out.1⟩)
      clear st
      go_upto_region 8 with fail
      go_quiet (fail)
      go_wp2
      exact HF.out _ _ _ _ _ _ _ _ _ _ _ _ _ _ _ _ _ _ _ _ _ _ _ _ _ _ _ _ _ _ _ _ _ _ _ _ _ _ _ _ (Lib.hid (FIN.out _))
    | succ q =>
      have eq1 : ((q + 1 : Nat) : Int) = (q : Int) + 1 := by omega
      rw [eq1]
      obtain ⟨y, hy, cy, fy, ⟨z, cz⟩, fz, hm, st, ex⟩ := hJ.out.2.step
      have hyi : y < i := (mem_kids.1 (mem_stab.1 hy)).1
      have BEw := HB.out.below hJ.out.1
      have ST := Lib.hid st
      have EX := Lib.hid (fun h => ex h (stab_sd _ _))
      have BL := Lib.hid hJ.out.1
      have hgw : g < wr.heap.size := by have := hJ.out.2.form; obtain ⟨g', c', e, h1, h2⟩ := this; cases e; exact h2
      clear st ex
      go_upto_region 8 with fail
      refine reg8 wr gl n cl g ((KS b L p i).length + 1) c i q y (L y) (L i) _ _ _ _ _ _ _ _ _ _ _ _ _ _ _ _ _ _ _ _ _ _ _ _ _ _ _ _ _ _ _ _ _ _ _ _ _ _ _ _ _ _ _ _ _ _ _ _ _ _ _ _ _ _ _ _ _ _ _ _ _ _ _ _ _ _ _ _ _ _ _ _ _ _ _ _ _ _ _ _ _ _ _ _ _ _ _ _ _ (HI.out.1 y (by omega)) (HI.out.1 i hlt) (BEw.rl y (by omega)) (BEw.rl i hlt) cy (by omega) hlt (by omega) (by have := HKL.out; omega) BEw.l.2.1 hgw (fun v33 v34 v35 v36 v37 v38 v39 v40 v41 v42 v43 v44 v45 v46 v47 v48 v49 v50 w4 hb => ?_)
      have BL4 := Lib.hid (BL.out.trans (hb.mono BL.out.size))
      obtain ⟨t, ht⟩ : ∃ t, t = decide (kf (lvO L) i < kf (lvO L) y) := ⟨_, rfl⟩
      have HT := Lib.hid ht
      show Exit.then _ _ _ (Act.mk _ _) _
      rw [show decide (zk (pl (if isN (L i).v then 0 else (L i).v)) < zk (pl (if isN (L y).v then 0 else (L y).v))) = t from ht.symm]
      have HB4 := Lib.hid hb
      have cy4 : w4.cell? ⟨g, q, none⟩ = some (.int .i64 (y : Int)) := (hb.cell (p := ⟨g, q, none⟩) hgw).trans cy
      have cz4 : w4.cell? ⟨g, q + 1, none⟩ = some (.int .i64 z) := (hb.cell (p := ⟨g, q + 1, none⟩) hgw).trans cz
      have fz4 : w4.frozen? ⟨g, q + 1, none⟩ = false := (hb.frozen (p := ⟨g, q + 1, none⟩) hgw).trans fz
      obtain ⟨y', hy', cy', fy', ⟨z', cz'⟩, fz', hm', st', ex'⟩ := (hJ.out.2.below hb).step
      have ey : y' = y := by rw [cy4] at cy'; injection cy' with e; injection e with _ e; omega
      subst ey
      have ST4 := Lib.hid st'
      have EX4 := Lib.hid (fun h => ex' h (stab_sd _ _))
      have hq1 : ((q : Int) + 1) < ((KS b L p i).length : Int) + 1 := by omega
      have hq0 : (q : Int) < ((KS b L p i).length : Int) + 1 := by omega
      have HQW := Lib.hid (show wrap64 (q : Int) = (q : Int) from by have := HKL.out; unfold wrap64; omega)
      have hqb : (q : Int) ≤ 1048576 := by have := HKL.out; omega
      clear ht cy cz fz fy hb st' ex' hy' cy' fy' cz' fz' ST EX
      cases t with
      | true =>
        go_upto_region 9 with fail
        have E4 := Lib.hid (ST4.out (by have := HT.out; simpa using this.symm))
        have FIN := Lib.hid (And.intro (below_setCell_own (v := .int .i64 (y' : Int)) (p := ⟨g, q + 1, none⟩) BL4.out GG.out.1) E4.out)
        clear hm hyi hgw
        go_wp2_with fail
        go_roundw
        case rel => exact ⟨q, by go_num, by omega, FIN.out⟩
        case measure => simp [intOf]; done
      | false =>
        go_upto_region 11 with fail
        have E4 := Lib.hid (EX4.out (by have := HT.out; simpa using this))
        have FIN := Lib.hid (show BB1 w (w4.setCell ⟨g, q + 1, none⟩ (.int .i64 (i : Int))) b L p (i + 1) (.slice (some ⟨g, 0, none⟩) ((KS b L p i).length + 1) c) from ⟨by
          have h := E4.out
          rwa [show mg (kf (lvO L)) (KS b L p i) [i] = KS b L p (i + 1) from by unfold KS; rw [kids_succ, if_pos HA.out, stab_snoc]] at h, below_setCell_own BL4.out GG.out.1⟩)
        clear hm hyi hgw hq0 cy4
        go_wp2_with fail
        exact HF.out _ _ _ _ _ _ _ _ _ _ _ _ _ _ _ _ _ _ _ _ _ _ _ _ _ _ _ _ _ _ _ _ _ _ _ _ _ _ _ _ FIN
end Go.Proofs.Ytedkbjimofiphaa

namespace Go.Proofs.Ytedkbjimofiphaa
open Go.RowKit Fl
set_option maxRecDepth 100000 in
set_option maxHeartbeats 2000000 in
theorem c30b (gb gl gi n cb cl ci : Nat) (b : Nat → BX) (L : Nat → LK) (it : Nat → List Value) (hL : ∀ k, k < n → (L k).OK) (hit : ∀ k, (it k).length = 23) (h1 : ∀ k, ∀ u ∈ it k, u.oneCell' = true) (hn : n ≤ 1048576) :
    ∀ (f : Nat) (w : World) (p : Option Nat), BE w gb gl gi n b L it → (n : Int) - paV p ≤ (f : Int) → (∀ k, p = some k → k < n) →
    Calls Try.prog 30 #[.slice (some ⟨gb, 0, none⟩) n cb, .slice (some ⟨gl, 0, none⟩) n cl, .slice (some ⟨gi, 0, none⟩) n ci, .int .i64 (paV p)] w
      fun e w' => ∃ ov, e = .returned ov ∧ w'.ownsRow w.heap.size 60 23 ov ((KS b L p n).flatMap (tr n (abO b) (kf (lvO L)))).length ((KS b L p n).flatMap fun k => (tr n (abO b) (kf (lvO L)) k).flatMap it) ∧ Below w.heap.size w w' := by
  intro f
  induction f with
  | zero =>
    intro w p hB hf hp
    exfalso
    cases p with
    | none => have : paV none = -1 := rfl; omega
    | some k => have := hp k rfl; have : paV (some k) = (k : Int) := rfl; omega
  | succ f ih =>
    intro w p hB hf hp
    obtain ⟨k0, hk0, hk1, hk2⟩ : ∃ k0 : Nat, paV p = (k0 : Int) - 1 ∧ k0 ≤ n ∧ kids k0 (abO b) p = [] := by
      cases p with
      | none => exact ⟨0, rfl, by omega, rfl⟩
      | some k =>
        refine ⟨k + 1, by show (k : Int) = _; omega, by have := hp k rfl; omega, List.eq_nil_iff_forall_not_mem.2 fun x hx => ?_⟩
        have h := mem_kids.1 hx
        have := abO_lt h.2
        omega
    have HB := Lib.hid hB
    have HP := Lib.hid (And.intro hf (And.intro hp hk0))
    have IH := Lib.hid ih
    have HI := Lib.hid (And.intro hL (And.intro hit h1))
    have B0 := Lib.hid (show BB1 w w b L p k0 (.slice none 0 0) from ⟨by unfold KS; rw [hk2]; exact World.ownsRow_nil .., Below.refl _ _⟩)
    rw [hk0]
    clear hB hf hp ih hk0 hk2 hL hit h1
    go_enter Try.func30, Try.ntmps30
    go_wp2_with fail
    go_loopw [9, 10, 11] (fun rv ii _ wx => ∃ i : Nat, ii = .int .i64 (i : Int) ∧ i ≤ n ∧ Hid (BB1 w wx b L p i rv)) (fun _ ii _ _ => n - (intOf ii).toNat)
    case atStart => exact ⟨k0, by go_num, hk1, B0⟩
    case round =>
      obtain ⟨i, rfl, hin, hI⟩ := hrel
      by_cases hlt : i < n
      · have di : decide ((i : Int) < (n : Int)) = true := decide_eq_true (by omega)
        have BEr := Lib.hid (HB.out.below hI.out.bl)
        have CA := Lib.hid (c27r wr gb n cb i b (BEr.out.rb i hlt) hlt)
        obtain ⟨pr, cr, rfl, -⟩ := owned_slice hI.out.o
        go_wp2_with fail
        go_at_call 27
        refine CA.out.mono fun e w1 ⟨he, hw1⟩ => ?_
        subst he hw1
        by_cases hab : abO b i = p
        · have hv : abV b i = (k0 : Int) - 1 := by rw [← HP.out.2.2]; exact (abV_eq b i p).2 hab
          rw [hv]
          have HA := Lib.hid hab
          clear hab hv CA
          go_upto_region 7 with fail
          refine tail7 (by assumption) gb gl gi n cb cl ci f k0 b L it w p hn HI HB HP i hlt HA w1 pr cr _ _ _ _ _ _ _ _ _ _ _ _ _ _ _ _ _ _ _ _ _ _ _ _ _ _ _ _ _ _ _ _ _ _ _ _ _ _ _ _ _ _ _ _ _ _ _ _ _ _ _ _ _ _ _ _ _ _ _ _ _ _ _ _ _ _ _ _ _ _ _ _ _ _ _ _ _ _ _ _ _ _ _ _ _ _ _ (Lib.hid hI.out) (fun v11 v29 v30 v31 v32 v33 v34 v35 v36 v37 v38 v39 v40 v41 v42 v43 v44 v45 v46 v47 v48 v49 v50 v51 v52 v53 v54 v55 v56 v57 v58 v59 v60 v61 v62 v63 v64 v65 rv w' HN => ?_)
          go_wp2_with fail
          go_roundw
          case rel => exact ⟨i + 1, by go_num, by omega, HN⟩
          case measure => simp [intOf]; omega
        · have hv : abV b i ≠ (k0 : Int) - 1 := fun h => hab ((abV_eq b i p).1 (by rw [h, HP.out.2.2]))
          have hd : decide (abV b i = (k0 : Int) - 1) = false := decide_eq_false hv
          have B2 := Lib.hid (show BB1 w w1 b L p (i + 1) (.slice pr (KS b L p i).length cr) from ⟨by
            have := hI.out.o
            unfold KS at this ⊢
            rw [kids_succ, if_neg hab, List.append_nil]; exact this, hI.out.bl⟩)
          clear hab
          go_wp2_with fail
          go_roundw
          case rel => exact ⟨i + 1, by go_num, by omega, B2⟩
          case measure => simp [intOf]; omega
      · have e : i = n := by omega
        subst e
        have di : decide ((i : Int) < (i : Int)) = false := by simp
        obtain ⟨pr, cr, rfl, -⟩ := owned_slice hI.out.o
        go_upto_region 12 with fail
        refine tail12 (by assumption) gb gl gi i cb cl ci f k0 b L it w p hn HI HB HP IH wr pr cr _ _ _ _ _ _ _ _ _ _ _ _ _ _ _ _ _ _ _ _ _ _ _ _ _ _ _ _ _ _ _ _ _ _ _ _ _ _ _ _ _ _ _ _ _ _ _ _ _ _ _ _ _ _ _ _ _ _ _ _ _ _ _ _ _ _ _ _ _ _ _ _ _ _ _ _ _ _ _ _ _ _ _ _ _ _ _ _ _ hI (fun ov w' h => ?_)
        exact ⟨ov, rfl, h.1, h.2⟩
end Go.Proofs.Ytedkbjimofiphaa
