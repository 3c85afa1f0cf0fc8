/- The walk of CalcRoots. -/
import Derived.Test.YthohhepoddnbnaaGreatDoorMgCaB
import Derived.Test.YthohhepoddnbnaaGreatDoorAwA
import Derived.Laws.AppendOwnNone
import Derived.Laws.CopyOwn
namespace Go.Proofs.YthohhepoddnbnaaGreatDoor
open Go.RowKit Fl

def M77 : Nat := 4635118810238550016
theorem bcell1 {W w1 : World} (hb : Below W.heap.size W w1) {g : Nat} {v : Value} (h : W.cell? ⟨g, 0, none⟩ = some v) : w1.cell? ⟨g, 0, none⟩ = some v := by
  refine (hb.cell (p := ⟨g, 0, none⟩) ?_).trans h
  rcases Nat.lt_or_ge g W.heap.size with h1 | h1
  · exact h1
  · simp [World.cell?, Array.getElem?_eq_none h1] at h
set_option maxRecDepth 100000 in
theorem c12 (x y : Nat) (w : World) (hx : U x) (hy : U y) : Calls Tryz.prog 12 #[.float .f64 x, .float .f64 y] w fun e w' => e = .returned (.bool (pl x == pl y)) ∧ w = w' := by
  have h := Lib.hid (fun wx => c24 x y wx hx hy)
  clear hx hy
  go_enter Tryz.func12, Tryz.ntmps12
  go_wp2_with (go_at_call 56; refine (h.out _).mono ?_; rintro e w' ⟨rfl, rfl⟩)
  go_ret
  exact ⟨rfl, rfl⟩
theorem empty_own (wx : World) (base : Nat) (h : base ≤ wx.heap.size) : (wx.alloc (.cells #[] 22)).ownsRow base 22 1 (.slice (some ⟨wx.heap.size, 0, none⟩) 0 0) 0 [] :=
  ⟨rfl, .inr ⟨wx.heap.size, 0, #[], rfl, h, by show (wx.heap.push _)[wx.heap.size]? = _; simp, Nat.le_refl _, by decide, rfl, rfl⟩⟩
theorem FS.news {w : World} {ad : Addr} {l : List Nat} (h : FS w (some ad) l) : ∀ j u, (l.map (Value.float .f64))[j]? = some u → w.cell? (ad.add j) = some u := by
  intro j u hj
  rcases h with rfl | ⟨b, o, hA, hF⟩
  · simp at hj
  · cases hA
    rw [List.getElem?_map] at hj
    cases hx : l[j]? with
    | none => rw [hx] at hj; cases hj
    | some x =>
      rw [hx] at hj
      cases hj
      have hc := hF.cell j x hx
      unfold Addr.add
      split
      · rename_i h0; subst h0; exact hc
      · exact hc
theorem floats_oneCell (l : List Nat) : ∀ u ∈ l.map (Value.float .f64), u.oneCell' = true := fun v hv => by obtain ⟨x, _, rfl⟩ := List.mem_map.1 hv; rfl
theorem one_news (w : World) (v : Value) (t : TypeId) : ∀ j u, [v][j]? = some u → (w.alloc (.cells #[v] t)).cell? ((⟨w.heap.size, 0, none⟩ : Addr).add j) = some u := by
  intro j u hj
  match j, hj with
  | 0, hj => simp at hj; subst hj; simp [Addr.add]
/-- an own row of floats, from its first cell on -/
theorem own_FL {w : World} {B n : Nat} {v : Value} {m : List Nat} (h : w.ownsRow B 22 1 v n (m.map (Value.float .f64))) (hU : ∀ x ∈ m, U x) (hn : 0 < n) : ∃ g cap, v = .slice (some ⟨g, 0, none⟩) n cap ∧ n ≤ cap ∧ B ≤ g ∧ FL w g 0 m := by
  obtain ⟨h1, h2⟩ := h
  rw [List.length_map, Nat.mul_one] at h1
  rcases h2 with ⟨_, h2⟩ | ⟨g, cap, cur, rfl, hb, hg, h3, h4, h5, h6⟩
  · omega
  · refine ⟨g, cap, rfl, h3, hb, ⟨fun j x hj => ?_, fun j x hj => hU x (List.mem_of_getElem? hj), (Array.getElem?_eq_some_iff.1 hg).1⟩⟩
    have hlt : j < m.length := (List.getElem?_eq_some_iff.1 hj).1
    have : (cur.toList.take (n * 1))[j]? = some (.float .f64 x) := by rw [h6, List.getElem?_map, hj]; rfl
    rw [List.getElem?_take, if_pos (by omega)] at this
    simp only [World.cell?, hg, Nat.zero_add]
    simpa using this
set_option maxRecDepth 100000 in
set_option maxHeartbeats 2000000 in
theorem walkCalcRoots (W : World) (hg : W.cell? ⟨1, 0, none⟩ = some hvError) (A : Option Addr) (l : List Nat) (c : Nat) (h : FS W A l) (hn : A = none → c = 0) (hlc : l.length ≤ c) (hc : c * 8 ≤ 140737488351232) :
    Calls Tryz.prog 4 #[.slice A l.length c] W fun e w' => e = .returned (.bool true) ∧ Below W.heap.size W w' := by
  obtain ⟨i0, hi, hz0, hz1, hz2⟩ := info_parts info24
  have H := Lib.hid h
  have HL := Lib.hid (show l.length * 8 ≤ 140737488351232 by omega)
  have HI := Lib.hid (And.intro hi (And.intro hz0 (And.intro hz1 hz2)))
  have haw := Lib.hid (awake_ok hg)
  have n1 : (l.length : Int) ≤ 17592186044416 := by omega
  have HU : Hid (∀ x ∈ l ++ [M77], U x) := Lib.hid (by
    intro x hx
    rcases List.mem_append.1 hx with h1 | h1
    · exact h.u x h1
    · simp only [List.mem_cons, List.not_mem_nil, or_false] at h1
      subst h1
      unfold U M77; omega)
  have HN : Hid (A = none → l = [] ∧ c = 0) := Lib.hid fun e => ⟨by have := hn e; exact List.eq_nil_of_length_eq_zero (by omega), hn e⟩
  clear h hi hz0 hz1 hz2 hg hlc hc hn
  go_enter Tryz.func4, Tryz.ntmps4
  go_upto_region 2 with (go_at_call 9; refine haw.out.mono ?_; rintro e w1 ⟨rfl, hb⟩; replace hb := Lib.hid hb)
  have key : Hid (∀ v w2, w2.ownsRow w1.heap.size 22 1 v (l.length + 1) ((l ++ [M77]).map (Value.float .f64)) → Below w1.heap.size w1 w2 → ∃ g cap, v = .slice (some ⟨g, 0, none⟩) (l.length + 1) cap ∧ l.length + 1 ≤ cap ∧ FL w2 g 0 (l ++ [M77]) ∧ Below W.heap.size W w2) := Lib.hid fun v w2 ho hb2 => by
    obtain ⟨g, cap, h1, h2, h3, h4⟩ := own_FL ho HU.out (by omega)
    exact ⟨g, cap, h1, h2, h4, below_trans hb.out hb2⟩
  have O0 := Lib.hid (empty_own w1 w1.heap.size (Nat.le_refl _))
  have B0 : Hid (Below w1.heap.size w1 (w1.alloc (.cells #[] 22))) := Lib.hid ((Below.refl _ w1).alloc (Nat.le_refl _) _)
  rcases A with _ | ad
  · obtain ⟨hl0, rfl⟩ := HN.out rfl
    have HL0 := Lib.hid hl0
    clear hl0
    go_upto_region 3 with (first | (at_builtin; refine wpList_append_own_none rfl (.tmp 10) (.tmp 11) 31 rfl w1.heap.size 22 i0 1 Tryz.underlying31 HI.out.1 _ 0 [] rfl O0.out (by rw [HL0.out]; rfl) ?_) | (at_builtin; refine wpList_append_own _ rfl (.tmp 12) (.tmp 13) 31 rfl w1.heap.size 22 i0 (.float .f64 0) 1 8 Tryz.underlying31 HI.out.1 HI.out.2.1 HI.out.2.2.1 HI.out.2.2.2 rfl (by decide) _ 0 [] rfl (O0.out.alloc _) ⟨w1.heap.size + 1, 0, none⟩ 1 1 [.float .f64 M77] rfl rfl ?c1 ?c2 (by decide) (by decide) ?c3 ?_))
    case c1 => intro j u hj; exact hj
    case c2 => rfl
    case c3 => omega
    intro v w2 own2 grow2 _
    have K2 := Lib.hid (key.out v w2 (by rw [HL0.out]; exact own2) ((B0.out.alloc (by simp) (.cells #[.float .f64 M77] 22)).grown grow2 (by simp; omega) (fun k hk => by simp [Value.ownBlock] at hk; omega)))
    clear own2 grow2
    obtain ⟨g, cap, rfl, hcap, hF, hB⟩ := K2.out
    have hcapI : (l.length : Int) + 1 ≤ (cap : Int) := by omega
    have F2 := Lib.hid hF
    have B2 := Lib.hid hB
    have S2 : Hid (FS w2 (some ⟨g, 0, none⟩) l) := Lib.hid (.inr ⟨g, 0, rfl, ⟨fun j x hj => hF.cell j x (by rw [List.getElem?_append_left (List.getElem?_eq_some_iff.1 hj).1]; exact hj), fun j x hj => hF.u j x (by rw [List.getElem?_append_left (List.getElem?_eq_some_iff.1 hj).1]; exact hj), hF.lt⟩⟩)
    clear hF hB K2 hcap
    go_wp2_with fail
    refine (c13 (some ⟨g, 0, none⟩) cap l w2 S2.out (by have := HL.out; omega)).mono ?_
    rintro e w3 ⟨⟨r, rfl, hr⟩, hb3⟩
    have R3 := Lib.hid hr
    have F3 := Lib.hid (F2.out.below hb3)
    have B3 := Lib.hid (below_trans B2.out hb3)
    clear hr hb3 F2 B2 S2
    go_wp2_with fail
    refine (c14 _ _ l w3 (H.out.below B3.out) (by have := HL.out; omega)).mono ?_
    rintro e w4 ⟨⟨r2, rfl, hr⟩, hb4⟩
    have R4 := Lib.hid hr
    have F4 := Lib.hid (F3.out.below hb4)
    have B4 := Lib.hid (below_trans B3.out hb4)
    clear hr hb4 F3 B3
    go_wp2_with fail
    refine (c12 r r2 w4 R3.out.1 R4.out.1).mono ?_
    rintro e w' ⟨rfl, rfl⟩
    have e34 : (pl r == pl r2) = true := by rw [R3.out.2, R4.out.2]; simp
    rw [e34]
    clear e34 R3 R4
    go_wp2_with fail
    go_loopw [7] (fun i wx => ∃ k : Nat, k ≤ l.length ∧ i = .int .i64 k ∧ Hid (Below W.heap.size W wx) ∧ Hid (FL wx g 0 (l ++ [M77]))) (fun i _ => l.length - (intOf i).toNat)
    case atStart => exact ⟨0, by omega, rfl, B4, F4⟩
    case round =>
      obtain ⟨k, hk, rfl, hB, hF⟩ := hrel
      by_cases hlt : k < l.length
      · exact absurd hlt (by rw [HL0.out]; simp)
      · have hki : ¬ (k : Int) < (l.length : Int) := by omega
        have k7 := hF.out.cell l.length M77 (by rw [List.getElem?_append_right (Nat.le_refl _), Nat.sub_self]; rfl)
        rw [Nat.zero_add] at k7
        have k7 : wr.cell? ⟨g, l.length, none⟩ = some (.float .f64 4635118810238550016) := k7
        have e7 : (FloatKind.f64.format.order 4635118810238550016 4635118810238550016 == some Ordering.eq) = true := by decide
        clear hlt hF
        go_wp2
        go_ret
        exact ⟨rfl, hB.out⟩
  · have N1 := Lib.hid ((H.out.below hb.out).below B0.out).news
    go_upto_region 3 with (first | (at_builtin; refine wpList_append_own _ rfl (.tmp 10) (.tmp 11) 31 rfl w1.heap.size 22 i0 (.float .f64 0) 1 8 Tryz.underlying31 HI.out.1 HI.out.2.1 HI.out.2.2.1 HI.out.2.2.2 rfl (by decide) _ 0 [] rfl O0.out ad l.length c (l.map (Value.float .f64)) rfl (by rw [List.length_map, Nat.mul_one]) N1.out (floats_oneCell l) (by unfold maxLen; have := HL.out; omega) (by have := HL.out; omega) (by simp) ?_; intro v1 w2 own1 grow1 nil1; replace own1 := Lib.hid own1; replace grow1 := Lib.hid grow1) | (at_builtin; refine wpList_append_own _ rfl (.tmp 12) (.tmp 13) 31 rfl w1.heap.size 22 i0 (.float .f64 0) 1 8 Tryz.underlying31 HI.out.1 HI.out.2.1 HI.out.2.2.1 HI.out.2.2.2 rfl (by decide) _ _ _ rfl (own1.out.alloc _) ⟨w2.heap.size, 0, none⟩ 1 1 [.float .f64 M77] rfl rfl ?c1 ?c2 ?c3 ?c4 ?c5 ?_))
    case c1 => intro j u hj; exact one_news _ _ _ j u hj
    case c2 => intro u hu; simp at hu; subst hu; rfl
    case c3 => unfold maxLen; have := HL.out; omega
    case c4 => have := HL.out; omega
    case c5 => have := grow1.out.size; simp at this ⊢; omega
    intro v w3 own2 grow2 _
    have hv1 : ∀ k, v1.ownBlock = some k → w1.heap.size ≤ k := fun k hk => by
      rcases own1.out.2 with ⟨e, _⟩ | ⟨g1, _, _, e, hb1, _⟩
      · rw [e] at hk; cases hk
      · rw [e] at hk; cases hk; exact hb1
    have bel : Below w1.heap.size w1 w3 := (((B0.out.grown grow1.out (by simp) (fun k hk => by cases hk; exact Nat.le_refl _)).alloc (by have := grow1.out.size; simp at this; omega) (.cells #[.float .f64 M77] 22)).grown grow2 (by have := grow1.out.size; simp at this ⊢; omega) hv1)
    have K2 := Lib.hid (key.out v w3 (by rw [List.map_append]; simpa using own2) bel)
    clear own2 grow2 bel hv1 own1 grow1 nil1
    clear B0
    obtain ⟨g, cap, rfl, hcap, hF, hB⟩ := K2.out
    have hcapI : (l.length : Int) + 1 ≤ (cap : Int) := by omega
    have F2 := Lib.hid hF
    have B2 := Lib.hid hB
    have S2 : Hid (FS w3 (some ⟨g, 0, none⟩) l) := Lib.hid (.inr ⟨g, 0, rfl, ⟨fun j x hj => hF.cell j x (by rw [List.getElem?_append_left (List.getElem?_eq_some_iff.1 hj).1]; exact hj), fun j x hj => hF.u j x (by rw [List.getElem?_append_left (List.getElem?_eq_some_iff.1 hj).1]; exact hj), hF.lt⟩⟩)
    clear hF hB K2 hcap
    go_wp2_with fail
    refine (c13 (some ⟨g, 0, none⟩) cap l w3 S2.out (by have := HL.out; omega)).mono ?_
    rintro e wy ⟨⟨r, rfl, hr⟩, hb3⟩
    have R3 := Lib.hid hr
    have F3 := Lib.hid (F2.out.below hb3)
    have B3 := Lib.hid (below_trans B2.out hb3)
    clear hr hb3 F2 B2 S2
    go_wp2_with fail
    refine (c14 _ _ l wy (H.out.below B3.out) (by have := HL.out; omega)).mono ?_
    rintro e w4 ⟨⟨r2, rfl, hr⟩, hb4⟩
    have R4 := Lib.hid hr
    have F4 := Lib.hid (F3.out.below hb4)
    have B4 := Lib.hid (below_trans B3.out hb4)
    clear hr hb4 F3 B3
    go_wp2_with fail
    refine (c12 r r2 w4 R3.out.1 R4.out.1).mono ?_
    rintro e w' ⟨rfl, rfl⟩
    have e34 : (pl r == pl r2) = true := by rw [R3.out.2, R4.out.2]; simp
    rw [e34]
    clear e34 R3 R4
    go_wp2_with fail
    go_loopw [7] (fun i wx => ∃ k : Nat, k ≤ l.length ∧ i = .int .i64 k ∧ Hid (Below W.heap.size W wx) ∧ Hid (FL wx g 0 (l ++ [M77]))) (fun i _ => l.length - (intOf i).toNat)
    case atStart => exact ⟨0, by omega, rfl, B4, F4⟩
    case round =>
      obtain ⟨k, hk, rfl, hB, hF⟩ := hrel
      by_cases hlt : k < l.length
      · obtain ⟨b, o, hA, hFl⟩ : ∃ b o, some ad = some ⟨b, o, none⟩ ∧ FL W b o l := H.out.resolve_left (fun e => by rw [e] at hlt; exact absurd hlt (Nat.not_lt_zero _))
        cases hA
        have hki : (k : Int) < (l.length : Int) := by omega
        have hki1 : (k : Int) < (l.length : Int) + 1 := by omega
        obtain ⟨x, hx⟩ : ∃ x, l[k]? = some x := ⟨l[k], List.getElem?_eq_getElem hlt⟩
        have HLT := Lib.hid hlt
        have UX := Lib.hid (hFl.u k x hx)
        have kc := (hFl.below hB.out).cell k x hx
        have kg := hF.out.cell k x (by rw [List.getElem?_append_left hlt]; exact hx)
        rw [Nat.zero_add] at kg
        have B5 := Lib.hid (fun n => Bd hB.out n)
        have F5 : Hid (∀ n, FL (wr.drewN n) g 0 (l ++ [M77])) := Lib.hid fun n => ⟨fun j y hj => hF.out.cell j y hj, hF.out.u, hF.out.lt⟩
        clear hx hlt hFl H hF
        go_upto_region 8 with fail
        go_quiet ((go_at_call 12; exact Calls.quiet_of_same ((c12 x x _ UX.out UX.out).mono fun _ _ ⟨a, b⟩ => ⟨a, b.symm⟩)))
        go_wp2_with fail
        go_roundw
        case rel => exact ⟨k + 1, by have := HLT.out; omega, by go_num, Lib.hid (B5.out _), Lib.hid (F5.out _)⟩
        case measure => have := HLT.out; simp [intOf]; omega
      · have hki : ¬ (k : Int) < (l.length : Int) := by omega
        have k7 := hF.out.cell l.length M77 (by rw [List.getElem?_append_right (Nat.le_refl _), Nat.sub_self]; rfl)
        rw [Nat.zero_add] at k7
        have k7 : wr.cell? ⟨g, l.length, none⟩ = some (.float .f64 4635118810238550016) := k7
        have e7 : (FloatKind.f64.format.order 4635118810238550016 4635118810238550016 == some Ordering.eq) = true := by decide
        clear hlt hF
        go_wp2
        go_ret
        exact ⟨rfl, hB.out⟩
theorem walkCalcRoots2 (W : World) (hL : laidMetH Tryz.prog Rows.calcRootsRow.laid W) (A : Option Addr) (l : List Nat) (c : Nat) (h : FS W A l) (hlc : l.length ≤ c) (hc : c * 8 ≤ 140737488351232) (hn : A = none → c = 0) :
    Calls Tryz.prog 4 #[.slice A l.length c] W fun e w' => e = .returned (.bool true) ∧ Below W.heap.size W w' := walkCalcRoots W (handle_of_laid rfl hL) A l c h hn hlc hc
end Go.Proofs.YthohhepoddnbnaaGreatDoor
