/- galleyref16: parts. ease.Parse: the walk. ease: Print; the examples of the chapter (alive). EaseEnds: the walk. galleyref16: arguments. galleyref16: whole, steps. galleyref16: an easing of the reference; steps. galleyref16: curve. galleyref16: a point of a row. galleyref03.less. galleyref03's reads. galleyref03.ratio. galleyref03.place; value at any point. -/
import Derived.Test.YtlgencbldbpbdaaGreatDoorMgEbK
import Derived.Test.YtlgencbldbpbdaaGreatDoorMgEbD
import Derived.Test.YtlgencbldbpbdaaGreatDoorMgDhK
import Derived.Test.YtlgencbldbpbdaaGreatDoorMgQV
import Derived.Test.YtlgencbldbpbdaaGreatDoorMgDjB
import Derived.Test.YtlgencbldbpbdaaGreatDoorMgDhF
namespace Go.Proofs.YtlgencbldbpbdaaGreatDoor
open Go.RowKit Fl
def PS (l : List Nat) (c n k f : Nat) (ps : List ByteArray) : Prop :=
 (k ≤ n ∧ f ≤ k ∧ ¬ c ∈ (l.take k).drop f ∧ ps.map bl ++ splN c (l.drop f) = splN c l ∧ ps.length ≤ k) ∨ (k = n + 1 ∧ ps.map bl = splN c l ∧ ps.length ≤ n + 1)
theorem PS.other {l : List Nat} {c n k f x : Nat} {ps : List ByteArray} (h : PS l c n k f ps) (hn : l.length = n) (hk : k < n) (hx : l[k]? = some x) (hc : x ≠ c) : PS l c n (k + 1) f ps := by
 rcases h with ⟨h1, h2, h3, h4, h5⟩ | ⟨h1, -, -⟩
 ·refine .inl ⟨hk, by omega, ?_, h4, by omega⟩
  rw [List.take_add_one, hx, List.drop_append_of_le_length (by rw [List.length_take]; omega)]
  intro e
  rcases List.mem_append.1 e with e | e
  ·exact h3 e
  ·have : c = x := by simpa using e
   exact hc this.symm
 ·omega
theorem PS.here {l : List Nat} {c n k f x : Nat} {ps : List ByteArray} {y : ByteArray} (h : PS l c n k f ps) (hn : l.length = n) (hk : k < n) (hx : l[k]? = some x) (hc : x = c) (hy : bl y = (l.take k).drop f) : PS l c n (k + 1) (k + 1) (ps ++ [y]) := by
 rcases h with ⟨h1, h2, h3, h4, h5⟩ | ⟨h1, -, -⟩
 ·refine .inl ⟨hk, Nat.le_refl _, by rw [List.drop_of_length_le (by rw [List.length_take]; omega)]; simp, ?_, by simp; omega⟩
  have e : l.drop f = (l.take k).drop f ++ c :: l.drop (k + 1) := by
   have h6 : l = l.take k ++ l.drop k := (List.take_append_drop k l).symm
   have h7 : l.drop k = c :: l.drop (k + 1) := by
    rw [List.drop_eq_getElem_cons (by omega)]
    congr 1
    rw [← hc]
    rw [List.getElem?_eq_getElem (by omega)] at hx
    exact Option.some.inj hx
   have h8 : (l.take k ++ l.drop k).drop f = (l.take k).drop f ++ l.drop k := List.drop_append_of_le_length (by rw [List.length_take]; omega)
   rw [← h6, h7] at h8
   exact h8
  rw [← h4, e, splN_cons _ _ h3, List.map_append, List.map_cons, List.map_nil, hy, List.append_assoc]
  rfl
 ·omega
theorem PS.last {l : List Nat} {c n f : Nat} {ps : List ByteArray} {y : ByteArray} (h : PS l c n n f ps) (hn : l.length = n) (hy : bl y = (l.take n).drop f) : PS l c n (n + 1) (n + 1) (ps ++ [y]) := by
 rcases h with ⟨h1, h2, h3, h4, h5⟩ | ⟨h1, -, -⟩
 ·rw [List.take_of_length_le (by omega)] at h3 hy
  refine .inr ⟨rfl, ?_, by simp; omega⟩
  rw [← h4, splN_none _ h3, List.map_append, List.map_cons, List.map_nil, hy]
 ·omega
theorem PS.done {l : List Nat} {c n k f : Nat} {ps : List ByteArray} (h : PS l c n k f ps) (hk : ¬ k ≤ n) : k = n + 1 ∧ ps.map bl = splN c l := by
 rcases h with ⟨h1, _⟩ | ⟨h1, h2, -⟩
 ·omega
 ·exact ⟨h1, h2⟩
theorem PS.len {l : List Nat} {c n k f : Nat} {ps : List ByteArray} (h : PS l c n k f ps) : ps.length ≤ n + 1 ∧ k ≤ n + 1 ∧ (k ≤ n → f ≤ k) := by
 rcases h with ⟨h1, h2, -, -, h5⟩ | ⟨h1, -, h3⟩ <;> omega
def sv (ps : List ByteArray) : List Value := ps.map Value.string
set_option maxRecDepth 100000 in
set_option maxHeartbeats 4000000 in
theorem k99 (s : ByteArray) (c : Nat) (w : World) (hs : s.size ≤ 100000) (hc : c < 256) : Calls Tryz.prog 99 #[.string s, .int .u8 c] w fun e w' => (∃ u ps, e = .returned u ∧ ps.map bl = splN c (bl s) ∧ w'.ownsRow w.heap.size 9 1 u ps.length (sv ps)) ∧ Below w.heap.size w w' := by
 obtain ⟨n, hn⟩ : ∃ n, n = s.size := ⟨_, rfl⟩
 have HN := Lib.hid hn
 have HS := Lib.hid hs
 have LB := Lib.hid (bl_len s)
 clear hn hc hs
 go_enter Tryz.func99, Tryz.ntmps99
 go_wp2_with fail
 go_loopw [5, 6, 7] (fun u fv i wx => ∃ (k f : Nat) (ps : List ByteArray), i = .int .i64 k ∧ fv = .int .i64 f ∧ Hid (PS (bl s) c n k f ps) ∧ Hid (wx.ownsRow w.heap.size 9 1 u ps.length (sv ps)) ∧ Hid (Below w.heap.size w wx)) (fun _ _ i _ => n + 1 - (Lib.intOf i).toNat)
 case atStart => exact ⟨0, 0, [], rfl, rfl, Lib.hid (.inl ⟨Nat.zero_le _, Nat.le_refl _, by simp, by simp, Nat.zero_le _⟩), Lib.hid (World.ownsRow_nil _ _ _ _), Lib.hid (Below.refl _ _)⟩
 case round =>
  obtain ⟨k, f, ps, rfl, rfl, hP, hO, hB⟩ := hrel
  by_cases hk : k ≤ n
  ·have ki : (k : Int) ≤ (s.size : Int) := by have := HN.out; omega
   have k0 : (0 : Int) ≤ (k : Int) := Int.natCast_nonneg k
   have f0 : (0 : Int) ≤ (f : Int) := Int.natCast_nonneg f
   have fk : (f : Int) ≤ (k : Int) := by have := hP.out.len.2.2 hk; omega
   have hk1 : wrap64 ((k : Int) + 1) = ((k + 1 : Nat) : Int) := by have h1 := HN.out; have h2 := HS.out; unfold wrap64; omega
   have ln : (bl s).length = n := by rw [LB.out, HN.out]
   have LN := Lib.hid ln
   have HK := Lib.hid hk
   have ey : bl (s.extract f k) = ((bl s).take k).drop f := bl_extract s f k
   have EY := Lib.hid ey
   by_cases hkn : k = n
   ·have kb : ((k : Int) == (s.size : Int)) = true := beq_iff_eq.2 (by have := HN.out; omega)
    have P2 : Hid (PS (bl s) c n (k + 1) (k + 1) (ps ++ [s.extract f k])) := Lib.hid (by
     subst hkn
     exact hP.out.last LN.out EY.out)
    have PL := Lib.hid (hP.out.len.1)
    clear hkn ln ey hk
    go_wp2_with (at_builtin; refine app_one rfl _ _ 36 9 rfl (.string ByteArray.empty) 1 16 Tryz.underlying36 (by kernel_rfl) rfl (by decide) w.heap.size _ _ _ rfl hO.out #[.string (s.extract f k)] rfl ?c1 rfl ?c2 ?c3 ?c4 ?_)
    case c1 => first | rfl | (intro u hu; simp at hu; subst hu; rfl)
    case c2 => have h1 := PL.out; have h2 := HN.out; have h3 := HS.out; omega
    case c3 => have h1 := PL.out; have h2 := HN.out; have h3 := HS.out; omega
    case c4 => exact hB.out.size
    intro v3 w3 hown hbel hsz
    have O3 : Hid (w3.ownsRow w.heap.size 9 1 v3 (ps ++ [s.extract f k]).length (sv (ps ++ [s.extract f k]))) := Lib.hid (by unfold sv; rw [List.map_append, List.length_append]; exact hown)
    have B3 := Lib.hid (hbel w (Nat.le_refl _) hB.out)
    clear hown hbel hsz
    go_wp2
    go_roundw
    case rel => exact ⟨k + 1, k + 1, _, by first | rw [hk1] | rfl, by first | rw [hk1] | rfl, P2, O3, B3⟩
    case measure => have := HK.out; (try rw [hk1]); simp [Lib.intOf]; omega
   ·have hlt : k < s.size := by have := HN.out; omega
    have kl : (k : Int) < (s.size : Int) := by omega
    have kb : ((k : Int) == (s.size : Int)) = false := beq_eq_false_iff_ne.2 (by omega)
    have hx := bl_get s k hlt
    by_cases hcx : (s[k]'hlt).toNat = c
    ·have b0 : (((s[k]'hlt).toNat : Int) == (c : Int)) = true := beq_iff_eq.2 (by omega)
     have P2 : Hid (PS (bl s) c n (k + 1) (k + 1) (ps ++ [s.extract f k])) := Lib.hid (hP.out.here LN.out (by have := HN.out; omega) hx hcx EY.out)
     have PL := Lib.hid (hP.out.len.1)
     clear hcx ln ey hk hx hkn
     go_wp2_with (at_builtin; refine app_one rfl _ _ 36 9 rfl (.string ByteArray.empty) 1 16 Tryz.underlying36 (by kernel_rfl) rfl (by decide) w.heap.size _ _ _ rfl hO.out #[.string (s.extract f k)] rfl ?c1 rfl ?c2 ?c3 ?c4 ?_)
     case c1 => first | rfl | (intro u hu; simp at hu; subst hu; rfl)
     case c2 => have h1 := PL.out; have h2 := HN.out; have h3 := HS.out; omega
     case c3 => have h1 := PL.out; have h2 := HN.out; have h3 := HS.out; omega
     case c4 => exact hB.out.size
     intro v3 w3 hown hbel hsz
     have O3 : Hid (w3.ownsRow w.heap.size 9 1 v3 (ps ++ [s.extract f k]).length (sv (ps ++ [s.extract f k]))) := Lib.hid (by unfold sv; rw [List.map_append, List.length_append]; exact hown)
     have B3 := Lib.hid (hbel w (Nat.le_refl _) hB.out)
     clear hown hbel hsz
     go_wp2
     go_roundw
     case rel => exact ⟨k + 1, k + 1, _, by first | rw [hk1] | rfl, by first | rw [hk1] | rfl, P2, O3, B3⟩
     case measure => have := HK.out; (try rw [hk1]); simp [Lib.intOf]; omega
    ·have b0 : (((s[k]'hlt).toNat : Int) == (c : Int)) = false := beq_eq_false_iff_ne.2 (by omega)
     have P2 : Hid (PS (bl s) c n (k + 1) f ps) := Lib.hid (hP.out.other LN.out (by have := HN.out; omega) hx hcx)
     clear hcx ln ey hk hx hkn
     go_wp2_with fail
     go_roundw
     case rel => exact ⟨k + 1, f, ps, by first | rw [hk1] | rfl, rfl, P2, hO, hB⟩
     case measure => have := HK.out; (try rw [hk1]); simp [Lib.intOf]; omega
  ·have ki : ¬ (k : Int) ≤ (s.size : Int) := by have := HN.out; omega
   have D := Lib.hid (hP.out.done hk).2
   clear hk
   go_wp2_with fail
   go_ret
   exact ⟨⟨_, rfl, ps, D.out, hO.out⟩, hB.out⟩
end Go.Proofs.YtlgencbldbpbdaaGreatDoor
namespace Go.Proofs.YtlgencbldbpbdaaGreatDoor
open Go.RowKit Fl
theorem ok_ptr {w w1 w' : World} {R : Option Ez} {z : Ez} {p : Nat} (e : R = some z) (hb : Below w.heap.size w w1) (h1 : w1.heap.size ≤ p) (h2 : EzAt w' p z) (h3 : Below w1.heap.size w1 w') : ParseR w R (.returned (.tuple #[ptr p, .nilIface])) w' := by
 rw [e]
 exact OkR.mono ⟨p, rfl, h1, h2, h3⟩ hb
theorem bad_ret {w w1 w' : World} {R : Option Ez} {N : Nat} (e : R = none) (hb : Below w.heap.size w w1) (h : w1.heap.size ≤ N ∧ N < w'.heap.size ∧ w'.cell? ⟨N, 0, none⟩ = some (.int .i64 0) ∧ w'.cell? ⟨N, 1, none⟩ = some (.int .i64 161) ∧ Below w1.heap.size w1 w') : ParseR w R (.returned (.tuple #[.pointer none, .iface 111 (.pointer (some ⟨N, 0, none⟩))])) w' := by
 rw [e]
 exact BadR.mono ⟨N, rfl, h⟩ hb
theorem drop_ext (u : ByteArray) : bl (u.extract 0 (u.size - 1)) = (bl u).dropLast := by
 unfold bl
 rw [ByteArray.data_extract, Array.toList_extract, List.extract_eq_take_drop, List.drop_zero, List.map_take, List.dropLast_eq_take, List.length_map]
 rfl
set_option maxRecDepth 100000 in
set_option maxHeartbeats 4000000 in
theorem k12 (s : ByteArray) (w : World) (he : EW w) : Calls Tryz.prog 12 #[.string s] w fun e w' => ParseR w (parseF (bl s)) e w' := by
 obtain ⟨R, hR0⟩ : ∃ R, R = parseF (bl s) := ⟨_, rfl⟩
 rw [← hR0]
 have HW := Lib.hid he
 have BD := Lib.hid (fun (w1 : World) => k36 w1)
 have hbl : (bl s).length = s.size := bl_len s
 by_cases h0 : 2000 < s.size
 ·have e1 : Hid (R = none) := Lib.hid (by rw [hR0]; exact parse_long (by omega))
  have hc : (s.size : Int) > 2000 := by omega
  clear hR0 hbl h0 he
  go_enter Tryz.func12, Tryz.ntmps12
  go_wp2_with (go_at_call 36; refine (BD.out _).mono ?_; rintro e w9 ⟨N9, rfl, hb9⟩; have B9 := Lib.hid hb9; clear hb9)
  go_ret2
  exact bad_ret e1.out (Below.refl _ _) B9.out
 have hc : ¬ (s.size : Int) > 2000 := by omega
 have HR := Lib.hid (And.intro hR0 (show (bl s).length ≤ 2000 by omega))
 have C37 := Lib.hid (k37 s w (by omega))
 have HS := Lib.hid (show s.size ≤ 2000 by omega)
 clear hR0 hbl h0 he
 go_enter Tryz.func12, Tryz.ntmps12
 go_upto_region 4 with (go_at_call 37; refine C37.out.mono ?_; rintro e w1 ⟨⟨z, rfl, hz, hzs⟩, hb1⟩; have HZ := Lib.hid (And.intro hz hzs); have B1 := Lib.hid hb1; clear hz hzs hb1)
 have q1 : (z.toList == [108, 105, 110, 101, 97, 114]) = decide (bl z = aLinear) := tl_eq z [108, 105, 110, 101, 97, 114]
 have q2 : (z.toList == [101, 97, 115, 101]) = decide (bl z = aEase) := tl_eq z [101, 97, 115, 101]
 have q3 : (z.toList == [101, 97, 115, 101, 45, 105, 110]) = decide (bl z = aEaseIn) := tl_eq z [101, 97, 115, 101, 45, 105, 110]
 have q4 : (z.toList == [101, 97, 115, 101, 45, 111, 117, 116]) = decide (bl z = aEaseOut) := tl_eq z [101, 97, 115, 101, 45, 111, 117, 116]
 have q5 : (z.toList == [101, 97, 115, 101, 45, 105, 110, 45, 111, 117, 116]) = decide (bl z = aEaseIO) := tl_eq z [101, 97, 115, 101, 45, 105, 110, 45, 111, 117, 116]
 have q6 : (z.toList == [115, 116, 101, 112, 45, 115, 116, 97, 114, 116]) = decide (bl z = aStepStart) := tl_eq z [115, 116, 101, 112, 45, 115, 116, 97, 114, 116]
 have q7 : (z.toList == [115, 116, 101, 112, 45, 101, 110, 100]) = decide (bl z = aStepEnd) := tl_eq z [115, 116, 101, 112, 45, 101, 110, 100]
 have KW := Lib.hid (kw_facts (bl z))
 have FC := Lib.hid fw_consts
 have PT1 := Lib.hid ((HW.out.below B1.out).1)
 have KOK : Hid (∀ q, kwF (bl z) = some q → R = some q) := Lib.hid (fun q hq => by rw [HR.out.1]; exact parse_kw HR.out.2 (by rw [← HZ.out.1]; exact hq))
 by_cases c1 : bl z = aLinear
 ·rw [decide_eq_true c1] at q1
  have e1 := Lib.hid (KOK.out _ (KW.out.1 c1))
  have E1 := Lib.hid (show bl z = textE .line from c1)
  clear q2 q3 q4 q5 q6 q7 c1
  go_wp2_with fail
  go_ret2
  refine ok_ptr (w1 := w1) e1.out B1.out (Nat.le_refl _) ⟨by simp, z, .func (.func 38) #[] #[], by simp, E1.out, by simp, rfl⟩ ((Below.refl _ _).alloc (Nat.le_refl _) _)
 rw [decide_eq_false c1] at q1
 by_cases c2 : bl z = aEase
 ·rw [decide_eq_true c2] at q2
  have e1 := Lib.hid (KOK.out _ (KW.out.2.1 c2))
  have C39 := Lib.hid (k39 _ _ _ _ w1 FC.out.1.1 FC.out.2.1.1 FC.out.1.1 FC.out.2.2.1.1 PT1.out)
  clear q3 q4 q5 q6 q7 c1 c2
  go_wp2_with (go_at_call 39; refine C39.out.mono ?_; rintro e w9 ⟨p9, rfl, h9⟩; have H9 := Lib.hid h9; clear h9)
  go_ret2
  exact ok_ptr (w1 := w1) e1.out B1.out H9.out.1 H9.out.2.1 H9.out.2.2
 rw [decide_eq_false c2] at q2
 by_cases c3 : bl z = aEaseIn
 ·rw [decide_eq_true c3] at q3
  have e1 := Lib.hid (KOK.out _ (KW.out.2.2.1 c3))
  have C39 := Lib.hid (k39 _ _ _ _ w1 FC.out.2.2.2.1.1 FC.out.2.2.2.2.1.1 FC.out.2.2.1.1 FC.out.2.2.1.1 PT1.out)
  clear q4 q5 q6 q7 c1 c2 c3
  go_wp2_with (go_at_call 39; refine C39.out.mono ?_; rintro e w9 ⟨p9, rfl, h9⟩; have H9 := Lib.hid h9; clear h9)
  go_ret2
  exact ok_ptr (w1 := w1) e1.out B1.out H9.out.1 H9.out.2.1 H9.out.2.2
 rw [decide_eq_false c3] at q3
 by_cases c4 : bl z = aEaseOut
 ·rw [decide_eq_true c4] at q4
  have e1 := Lib.hid (KOK.out _ (KW.out.2.2.2.1 c4))
  have C39 := Lib.hid (k39 _ _ _ _ w1 FC.out.2.2.2.2.1.1 FC.out.2.2.2.2.1.1 FC.out.2.2.2.2.2.1 FC.out.2.2.1.1 PT1.out)
  clear q5 q6 q7 c1 c2 c3 c4
  go_wp2_with (go_at_call 39; refine C39.out.mono ?_; rintro e w9 ⟨p9, rfl, h9⟩; have H9 := Lib.hid h9; clear h9)
  go_ret2
  exact ok_ptr (w1 := w1) e1.out B1.out H9.out.1 H9.out.2.1 H9.out.2.2
 rw [decide_eq_false c4] at q4
 by_cases c5 : bl z = aEaseIO
 ·rw [decide_eq_true c5] at q5
  have e1 := Lib.hid (KOK.out _ (KW.out.2.2.2.2.1 c5))
  have C39 := Lib.hid (k39 _ _ _ _ w1 FC.out.2.2.2.1.1 FC.out.2.2.2.2.1.1 FC.out.2.2.2.2.2.1 FC.out.2.2.1.1 PT1.out)
  clear q6 q7 c1 c2 c3 c4 c5
  go_wp2_with (go_at_call 39; refine C39.out.mono ?_; rintro e w9 ⟨p9, rfl, h9⟩; have H9 := Lib.hid h9; clear h9)
  go_ret2
  exact ok_ptr (w1 := w1) e1.out B1.out H9.out.1 H9.out.2.1 H9.out.2.2
 rw [decide_eq_false c5] at q5
 by_cases c6 : bl z = aStepStart
 ·rw [decide_eq_true c6] at q6
  have e1 := Lib.hid (KOK.out _ (KW.out.2.2.2.2.2.1 c6))
  have C40 := Lib.hid (k40 1 1 w1 (by decide) (by decide) (by decide) (by decide) PT1.out)
  clear q7 c1 c2 c3 c4 c5 c6
  go_wp2_with (go_at_call 40; refine C40.out.mono ?_; rintro e w9 ⟨p9, rfl, h9⟩; have H9 := Lib.hid h9; clear h9)
  go_ret2
  exact ok_ptr (w1 := w1) e1.out B1.out H9.out.1 H9.out.2.1 H9.out.2.2
 rw [decide_eq_false c6] at q6
 by_cases c7 : bl z = aStepEnd
 ·rw [decide_eq_true c7] at q7
  have e1 := Lib.hid (KOK.out _ (KW.out.2.2.2.2.2.2.1 c7))
  have C40 := Lib.hid (k40 1 2 w1 (by decide) (by decide) (by decide) (by decide) PT1.out)
  clear c1 c2 c3 c4 c5 c6 c7
  go_wp2_with (go_at_call 40; refine C40.out.mono ?_; rintro e w9 ⟨p9, rfl, h9⟩; have H9 := Lib.hid h9; clear h9)
  go_ret2
  exact ok_ptr (w1 := w1) e1.out B1.out H9.out.1 H9.out.2.1 H9.out.2.2
 rw [decide_eq_false c7] at q7
 have AR : Hid (R = argF (bl z)) := Lib.hid (by rw [HR.out.1, HZ.out.1]; exact parse_ar HR.out.2 (by rw [← HZ.out.1]; exact KW.out.2.2.2.2.2.2.2 c1 c2 c3 c4 c5 c6 c7))
 have zs : z.size ≤ 2000 := by have h1 := HZ.out.2; have h2 := HS.out; omega
 have C41 := cCut z w1 (HW.out.below B1.out) (by omega)
 clear c1 c2 c3 c4 c5 c6 c7 KW KOK FC
 by_cases c8 : 40 ∈ bl z
 case neg =>
  rw [decide_eq_false c8] at C41
  have D41 := Lib.hid C41
  have e1 := Lib.hid (AR.out.trans (arg_none (fun c => c8 c.1)))
  clear c8 C41 zs
  go_wp2_with (first
   | (go_at_call 41; refine D41.out.mono ?_; rintro e w2 ⟨⟨y, u, rfl, -, -⟩, n2, rfl⟩)
   | (go_at_call 36; refine (BD.out _).mono ?_; rintro e w9 ⟨N9, rfl, hb9⟩; have B9 := Lib.hid hb9; clear hb9))
  go_ret2
  exact bad_ret e1.out (Bdn B1.out n2) B9.out
 rw [decide_eq_true c8] at C41
 have D41 := Lib.hid C41
 have H8 := Lib.hid c8
 have ZS := Lib.hid zs
 clear c8 C41 zs
 go_upto_region 20 with (go_at_call 41; refine D41.out.mono ?_; rintro e w2 ⟨⟨y, u, rfl, hu, hyu⟩, n2, rfl⟩; have HU := Lib.hid (And.intro hu (hyu H8.out)); clear hu hyu)
 have us : u.size ≤ 2000 := by have h1 := HU.out.1; have h2 := ZS.out; omega
 have C42 := Lib.hid (fun (w1 : World) => strings_HasSuffix u ⟨#[41]⟩ w1 (by omega))
 rw [show (⟨#[41]⟩ : ByteArray).data.toList = [41] from rfl, suffix_one 41 u.data.toList] at C42
 have B2 := Lib.hid (Bdn B1.out n2)
 by_cases c9 : ((u.data.toList.map UInt8.toNat).getLast? = some (UInt8.toNat 41))
 case neg =>
  rw [decide_eq_false c9] at C42
  have e1 := Lib.hid (AR.out.trans (arg_none (fun c => c9 (by have h := c.2; rw [← HU.out.2.2] at h; exact h))))
  clear c9 us
  go_wp2_with (first
   | (go_at_call 42; refine (C42.out _).mono ?_; rintro e w5 ⟨rfl, rfl⟩)
   | (go_at_call 36; refine (BD.out _).mono ?_; rintro e w9 ⟨N9, rfl, hb9⟩; have B9 := Lib.hid hb9; clear hb9))
  go_ret2
  exact bad_ret e1.out B2.out B9.out
 rw [decide_eq_true c9] at C42
 have u1 : 1 ≤ u.size := by
  rw [← bl_len]
  cases h : bl u with
  | nil => unfold bl at h; rw [h] at c9; cases c9
  | cons a l => simp
 have H9 := Lib.hid (And.intro c9 (And.intro u1 us))
 obtain ⟨n, hn⟩ : ∃ n, n = u.size - 1 := ⟨_, rfl⟩
 have l1 : wrap64 ((u.size : Int) - 1) = (n : Int) := by unfold wrap64; omega
 have l2 : (n : Int) ≤ (u.size : Int) := by omega
 obtain ⟨x, hx⟩ : ∃ x, x = u.extract 0 n := ⟨_, rfl⟩
 have HX : Hid (bl x = (aftN 40 (bl z)).dropLast) := Lib.hid (by rw [hx, hn, drop_ext, HU.out.2.2])
 have xs : x.size ≤ 2000 := by
  rw [← bl_len, HX.out, List.length_dropLast, ← show bl u = aftN 40 (bl z) from HU.out.2.2, bl_len]; omega
 have CS := Lib.hid (fun (w1 : World) (h : EW w1) => cSplit x w1 h xs)
 have HXS := Lib.hid xs
 have W2 := Lib.hid (HW.out.below B2.out)
 clear c9 us u1 xs hn
 rw [hx] at CS
 go_upto_region 23 with (first
   | (go_at_call 42; refine (C42.out _).mono ?_; rintro e w5 ⟨rfl, rfl⟩)
   | (go_at_call 43; refine (CS.out _ W2.out).mono ?_; rintro e w3 ⟨vs, rfl, hv⟩; have HV := Lib.hid hv; clear hv))
 obtain ⟨g, hg⟩ : ∃ g, g = w1.heap.size := ⟨_, rfl⟩
 obtain ⟨m, hm⟩ : ∃ m, m = vs.length := ⟨_, rfl⟩
 have V1 : Hid (vs.map bl = splN 44 (bl x) ∧ SB w3 g vs ∧ 1 ≤ m ∧ m ≤ 2001 ∧ Below g (w1.drewN n2) w3) := Lib.hid ⟨by rw [hx]; exact HV.out.1, by rw [hg]; exact HV.out.2.1, by rw [hm]; exact HV.out.2.2.1, by rw [hm]; exact HV.out.2.2.2.1, by rw [hg]; exact HV.out.2.2.2.2⟩
 have VL : Hid (vs.length = m) := Lib.hid hm.symm
 have GL : Hid (w.heap.size ≤ g) := Lib.hid (by rw [hg]; exact B1.out.size)
 have B3 : Hid (Below w.heap.size w w3) := Lib.hid (B2.out.trans (V1.out.2.2.2.2.mono (by have := GL.out; rw [hg]; exact B1.out.size)))
 rw [← hg, ← hm]
 have P0 : Hid (SB w3 g ([] ++ vs.drop 0)) := Lib.hid V1.out.2.1
 have VS : Hid (∀ v ∈ vs, v.size ≤ 2000) := Lib.hid (fun v hv => by
  have h1 := splN_len 44 (bl x) (bl v) (by rw [← V1.out.1]; exact List.mem_map_of_mem hv)
  rw [bl_len, bl_len] at h1
  have := HXS.out
  omega)
 clear hg hm HV C42 CS D41
 go_wp2_with fail
 go_loopw [66] (fun i wx => ∃ (k : Nat) (zs : List ByteArray), k ≤ m ∧ i = .int .i64 k ∧ Hid (zs.length = k ∧ zs.map bl = ((vs.take k).map bl).map trimN ∧ ∀ z ∈ zs, z.size ≤ 2000) ∧ Hid (SB wx g (zs ++ vs.drop k)) ∧ Hid (Below w.heap.size w wx)) (fun i _ => m - (Lib.intOf i).toNat)
 case atStart => exact ⟨0, [], Nat.zero_le _, rfl, Lib.hid ⟨rfl, rfl, fun z h => by cases h⟩, P0, B3⟩
 case round =>
  clear P0 B3
  obtain ⟨k, zs, hk, rfl, hZ, hS, hB⟩ := hrel
  by_cases hlt : k < m
  ·have hki : (k : Int) < (m : Int) := by omega
   obtain ⟨v, hv⟩ : ∃ v, vs[k]? = some v := ⟨vs[k]'(by have := VL.out; omega), List.getElem?_eq_getElem _⟩
   have kc := hS.out.cell (get_next hZ.out.1 hv)
   have sv := VS.out v (List.mem_of_getElem? hv)
   have C37' := Lib.hid (fun (w1 : World) => k37 v w1 (by omega))
   have HVV := Lib.hid (And.intro hv (And.intro hlt sv))
   clear hv hlt sv hk
   go_wp2_with (go_at_call 37; refine (C37'.out _).mono ?_; rintro e w5 ⟨⟨y5, rfl, hy, hys⟩, hb5⟩; have HY := Lib.hid (And.intro hy hys); have S5 := Lib.hid (hS.out.below hb5); have kc5 := S5.out.cell (get_next hZ.out.1 HVV.out.1); have kf5 := S5.out.frozen k; have B5 := Lib.hid (hB.out.trans (hb5.mono hB.out.size)); clear hy hys hb5)
   go_roundw
   case rel =>
    have hb := V1.out.2.2.2.1
    have hb2 := HVV.out.2.1
    refine ⟨k + 1, zs ++ [y5], by omega, by rw [show wrap64 ((k : Int) + 1) = ((k + 1 : Nat) : Int) by unfold wrap64; omega], Lib.hid ⟨by rw [List.length_append, hZ.out.1]; rfl, ?_, ?_⟩, Lib.hid ?_, Lib.hid (B5.out.setCell (p := ⟨g, k, none⟩) GL.out _)⟩
    ·rw [take_next HVV.out.1, List.map_append, List.map_append, List.map_append, hZ.out.2.1, List.map_cons, HY.out.1]; rfl
    ·intro z hz
     rcases List.mem_append.1 hz with hz | hz
     ·exact hZ.out.2.2 z hz
     ·rw [List.mem_singleton.1 hz]; have h1 := HY.out.2; have h2 := HVV.out.2.2; omega
    ·rw [← set_next hZ.out.1 (by rw [VL.out]; exact HVV.out.2.1)]; exact S5.out.set k y5
   case measure =>
    have h1 : wrap64 ((k : Int) + 1) = (k : Int) + 1 := by have := V1.out.2.2.2.1; unfold wrap64; omega
    have := HVV.out.2.1
    rw [h1]; simp [Lib.intOf]; omega
  ·have hki : ¬ (k : Int) < (m : Int) := by omega
   have e : k = m := by omega
   subst e
   have hd : vs.drop k = [] := List.drop_of_length_le (by rw [VL.out]; exact Nat.le_refl _)
   have S9 : Hid (LS wr g zs) := Lib.hid (by have := hS.out; rw [hd, List.append_nil] at this; exact this.ls)
   have hp : zs.map bl = (splN 44 (aftN 40 (bl z)).dropLast).map trimN := by
    rw [hZ.out.2.1, List.take_of_length_le (by rw [VL.out]; exact Nat.le_refl _), V1.out.1, HX.out]
   have E9 := Lib.hid (HW.out.below hB.out)
   have AF : Hid (R = fnF (bl y) (zs.map bl)) := Lib.hid (by rw [hp, HU.out.2.1]; exact AR.out.trans (arg_fn H8.out (by
    have h := H9.out.1
    rw [show (u.data.toList.map UInt8.toNat) = bl u from rfl, HU.out.2.2] at h
    exact h)))
   have K9 := Lib.hid (And.intro V1.out.2.2.1 V1.out.2.2.2.1)
   have ZL := Lib.hid hZ.out.1
   have ZZ := Lib.hid hZ.out.2.2
   have p1 : (y.toList == [99, 117, 98, 105, 99, 45, 98, 101, 122, 105, 101, 114]) = decide (bl y = aCubic) := tl_eq y [99, 117, 98, 105, 99, 45, 98, 101, 122, 105, 101, 114]
   have p2 : (y.toList == [115, 116, 101, 112, 115]) = decide (bl y = aStepsW) := tl_eq y [115, 116, 101, 112, 115]
   have p3 : (y.toList == [108, 105, 110, 101, 97, 114]) = decide (bl y = aLinear) := tl_eq y [108, 105, 110, 101, 97, 114]
   clear q1 q2 q3 q4 q5 q6 q7 hp hd hS hZ V1 VL VS
   by_cases d1 : bl y = aCubic
   ·rw [decide_eq_true d1] at p1
    obtain ⟨o, ho⟩ : ∃ o, o = curveF (zs.map bl) := ⟨_, rfl⟩
    have eR : Hid (R = o) := Lib.hid (by rw [AF.out, d1, fnF_c, ho])
    have C44 : Hid (Calls Tryz.prog 44 #[.slice (some ⟨g, 0, none⟩) k k] wr fun e w' => ParseR wr o e w') := Lib.hid (by
     have h := k44 g zs k wr S9.out E9.out ZZ.out (by rw [ZL.out]; have := K9.out.2; omega)
     rw [ZL.out, ← ho] at h
     exact h)
    clear p2 p3 d1 ho
    cases o with
    | none =>
      go_wp2_with (go_at_call 44; refine C44.out.mono ?_; rintro e w9 ⟨N9, rfl, hb9⟩; have B9 := Lib.hid hb9; clear hb9)
      go_ret2
      exact bad_ret eR.out hB.out B9.out
    | some z9 =>
      go_wp2_with (go_at_call 44; refine C44.out.mono ?_; rintro e w9 ⟨p9, rfl, h9⟩; have B9 := Lib.hid h9; clear h9)
      go_ret2
      exact ok_ptr (w1 := wr) eR.out hB.out B9.out.1 B9.out.2.1 B9.out.2.2
   rw [decide_eq_false d1] at p1
   by_cases d2 : bl y = aStepsW
   ·rw [decide_eq_true d2] at p2
    obtain ⟨o, ho⟩ : ∃ o, o = stepsF (zs.map bl) := ⟨_, rfl⟩
    have eR : Hid (R = o) := Lib.hid (by rw [AF.out, d2, fnF_s, ho])
    have C45 : Hid (Calls Tryz.prog 45 #[.slice (some ⟨g, 0, none⟩) k k] wr fun e w' => ParseR wr o e w') := Lib.hid (by
     have hl := ZL.out
     have h1 := K9.out.1
     have s9 := S9.out
     have z9 := ZZ.out
     cases zs with
     | nil => simp at hl; omega
     | cons x0 r =>
       have h := k45 g x0 r k wr s9 E9.out z9
       rw [← ho, show r.length + 1 = k from hl] at h
       exact h)
    clear p3 d1 d2 ho
    cases o with
    | none =>
      go_wp2_with (go_at_call 45; refine C45.out.mono ?_; rintro e w9 ⟨N9, rfl, hb9⟩; have B9 := Lib.hid hb9; clear hb9)
      go_ret2
      exact bad_ret eR.out hB.out B9.out
    | some z9 =>
      go_wp2_with (go_at_call 45; refine C45.out.mono ?_; rintro e w9 ⟨p9, rfl, h9⟩; have B9 := Lib.hid h9; clear h9)
      go_ret2
      exact ok_ptr (w1 := wr) eR.out hB.out B9.out.1 B9.out.2.1 B9.out.2.2
   rw [decide_eq_false d2] at p2
   by_cases d3 : bl y = aLinear
   ·rw [decide_eq_true d3] at p3
    obtain ⟨o, ho⟩ : ∃ o, o = ptsF (zs.map bl) := ⟨_, rfl⟩
    have eR : Hid (R = o) := Lib.hid (by rw [AF.out, d3, fnF_l, ho])
    have C46 : Hid (Calls Tryz.prog 46 #[.slice (some ⟨g, 0, none⟩) k k] wr fun e w' => ParseR wr o e w') := Lib.hid (by
     have h := k46 g zs k wr S9.out E9.out ZZ.out (by rw [ZL.out]; have := K9.out.2; omega)
     rw [ZL.out, ← ho] at h
     exact h)
    clear d1 d2 d3 ho
    cases o with
    | none =>
      go_wp2_with (go_at_call 46; refine C46.out.mono ?_; rintro e w9 ⟨N9, rfl, hb9⟩; have B9 := Lib.hid hb9; clear hb9)
      go_ret2
      exact bad_ret eR.out hB.out B9.out
    | some z9 =>
      go_wp2_with (go_at_call 46; refine C46.out.mono ?_; rintro e w9 ⟨p9, rfl, h9⟩; have B9 := Lib.hid h9; clear h9)
      go_ret2
      exact ok_ptr (w1 := wr) eR.out hB.out B9.out.1 B9.out.2.1 B9.out.2.2
   rw [decide_eq_false d3] at p3
   have eR : Hid (R = none) := Lib.hid (by rw [AF.out, fn_none _ d1 d2 d3])
   clear d1 d2 d3
   go_wp2_with (go_at_call 36; refine (BD.out _).mono ?_; rintro e w9 ⟨N9, rfl, hb9⟩; have B9 := Lib.hid hb9; clear hb9)
   go_ret2
   exact bad_ret eR.out hB.out B9.out
end Go.Proofs.YtlgencbldbpbdaaGreatDoor
namespace Go.Proofs.YtlgencbldbpbdaaGreatDoor
open Go.RowKit Fl
set_option maxRecDepth 100000 in
theorem k13 (b : Nat) (z : Ez) (w : World) (hz : EzAt w b z) : Calls Tryz.prog 13 #[ptr b] w fun e w' => (∃ s : ByteArray, e = .returned (.string s) ∧ bl s = textE z) ∧ w = w' := by
 obtain ⟨-, s, v, k0, hs, -, -⟩ := hz
 have HS := Lib.hid hs
 clear hs
 go_enter Tryz.func13, Tryz.ntmps13
 go_wp2
 go_ret
 exact ⟨⟨s, rfl, HS.out⟩, rfl⟩
theorem tl_true (s : ByteArray) (c : List UInt8) (h : bl s = c.map UInt8.toNat) : (s.toList == c) = true := by rw [tl_eq, decide_eq_true h]
def al1 : List Nat := [115, 116, 101, 112, 115, 40, 32, 51, 32, 41]
def al2 : List Nat := [99, 117, 98, 105, 99, 45, 98, 101, 122, 105, 101, 114, 40, 48, 46, 50, 53, 44, 32, 48, 46, 49, 44, 32, 48, 46, 50, 53, 44, 32, 49, 41]
def al3 : List Nat := [115, 116, 101, 112, 115, 40, 48, 41]
abbrev alC : Ez := .curve 4598175219545276416 4591870180066957722 4598175219545276416 4607182418800017408
theorem al_1 : parseF al1 = some (.steps 3 2) := by kernel_rfl
theorem al_2 : parseF al2 = some alC := by kernel_rfl
theorem al_3 : parseF al3 = none := by kernel_rfl
theorem al_t : textE (.steps 3 2) = [115, 116, 101, 112, 115, 40, 51, 44, 32, 106, 117, 109, 112, 45, 101, 110, 100, 41] := by decide +kernel
theorem al_x : feqP (atP alC (pl 13830554455654793216) false) (pl 13824249416176474522) = true := by decide +kernel
theorem al_y : feqP (atP alC (iP 1) false) (iP 1) = true := by decide +kernel
theorem al_z : feqP (atP (.steps 3 2) (pl 4602678819172646912) false) (pl 4599676419421066581) = true := by decide +kernel
theorem al_u : U 13830554455654793216 ∧ U 13824249416176474522 ∧ U 4602678819172646912 ∧ U 4599676419421066581 := by unfold U; decide
theorem al_X : ∃ P Q : Int, (RV 13824249416176474522 Q ∧ feqP P Q = true) ∧ ∀ (b : Nat) (w : World), EzAt w b alC → Calls Tryz.prog 15 #[.pointer (some ⟨b, 0, none⟩), .float .f64 13830554455654793216, .bool false] w fun e w' => RetR P e ∧ Below w.heap.size w w' :=
 ⟨_, _, ⟨RV.self al_u.2.1, al_x⟩, fun b w h => k15 (RV.self al_u.1) b alC false w h⟩
theorem al_Y : ∃ P Q : Int, (RV 4607182418800017408 Q ∧ feqP P Q = true) ∧ ∀ (b : Nat) (w : World), EzAt w b alC → Calls Tryz.prog 15 #[.pointer (some ⟨b, 0, none⟩), .float .f64 4607182418800017408, .bool false] w fun e w' => RetR P e ∧ Below w.heap.size w w' :=
 ⟨_, _, ⟨one_RV, al_y⟩, fun b w h => k15 one_RV b alC false w h⟩
theorem al_Z : ∃ P Q : Int, (RV 4599676419421066581 Q ∧ feqP P Q = true) ∧ ∀ (b : Nat) (w : World), EzAt w b (.steps 3 2) → Calls Tryz.prog 15 #[.pointer (some ⟨b, 0, none⟩), .float .f64 4602678819172646912, .bool false] w fun e w' => RetR P e ∧ Below w.heap.size w w' :=
 ⟨_, _, ⟨RV.self al_u.2.2.2, al_z⟩, fun b w h => k15 (RV.self al_u.2.2.1) b (.steps 3 2) false w h⟩
set_option maxRecDepth 100000 in
set_option maxHeartbeats 4000000 in
theorem k11 (w : World) (he : EW w) : Calls Tryz.prog 11 #[] w fun e w' => e = .returned (.bool true) ∧ Below w.heap.size w w' := by
 have C1 : Hid (Calls Tryz.prog 12 #[.string ⟨#[115, 116, 101, 112, 115, 40, 32, 51, 32, 41]⟩] w fun e w' => OkR w (.steps 3 2) e w') := Lib.hid (by
  have h := k12 ⟨#[115, 116, 101, 112, 115, 40, 32, 51, 32, 41]⟩ w he
  rw [show bl ⟨#[115, 116, 101, 112, 115, 40, 32, 51, 32, 41]⟩ = al1 from rfl, al_1] at h
  exact h)
 have C2 : Hid (∀ w1, EW w1 → Calls Tryz.prog 12 #[.string ⟨#[99, 117, 98, 105, 99, 45, 98, 101, 122, 105, 101, 114, 40, 48, 46, 50, 53, 44, 32, 48, 46, 49, 44, 32, 48, 46, 50, 53, 44, 32, 49, 41]⟩] w1 fun e w' => OkR w1 alC e w') := Lib.hid (fun w1 h1 => by
  have h := k12 ⟨#[99, 117, 98, 105, 99, 45, 98, 101, 122, 105, 101, 114, 40, 48, 46, 50, 53, 44, 32, 48, 46, 49, 44, 32, 48, 46, 50, 53, 44, 32, 49, 41]⟩ w1 h1
  rw [show bl ⟨#[99, 117, 98, 105, 99, 45, 98, 101, 122, 105, 101, 114, 40, 48, 46, 50, 53, 44, 32, 48, 46, 49, 44, 32, 48, 46, 50, 53, 44, 32, 49, 41]⟩ = al2 from rfl, al_2] at h
  exact h)
 have C3 : Hid (∀ w1, EW w1 → Calls Tryz.prog 12 #[.string ⟨#[115, 116, 101, 112, 115, 40, 48, 41]⟩] w1 fun e w' => BadR w1 e w') := Lib.hid (fun w1 h1 => by
  have h := k12 ⟨#[115, 116, 101, 112, 115, 40, 48, 41]⟩ w1 h1
  rw [show bl ⟨#[115, 116, 101, 112, 115, 40, 48, 41]⟩ = al3 from rfl, al_3] at h
  exact h)
 have HW := Lib.hid he
 have AU := Lib.hid al_u
 clear he
 go_enter Tryz.func11, Tryz.ntmps11
 go_upto_region 2 with (go_at_call 12; refine C1.out.mono ?_; rintro e w1 ⟨b1, rfl, h1⟩; have H1 := Lib.hid h1; clear h1)
 have W1 := Lib.hid (HW.out.below H1.out.2.2)
 go_upto_region 3 with (go_at_call 12; refine (C2.out _ W1.out).mono ?_; rintro e w2 ⟨b2, rfl, h2⟩; have H2 := Lib.hid h2; clear h2)
 have W2 := Lib.hid (W1.out.below H2.out.2.2)
 go_upto_region 4 with (go_at_call 12; refine (C3.out _ W2.out).mono ?_; rintro e w3 ⟨N3, rfl, h3⟩; have H3 := Lib.hid h3; clear h3)
 have Z1 : Hid (EzAt w3 b1 (.steps 3 2)) := Lib.hid ((H1.out.2.1.below H2.out.2.2).below H3.out.2.2.2.2)
 have Z2 : Hid (EzAt w3 b2 alC) := Lib.hid (H2.out.2.1.below H3.out.2.2.2.2)
 have BB : Hid (Below w.heap.size w w3) := Lib.hid ((H1.out.2.2.trans (H2.out.2.2.mono H1.out.2.2.size)).trans (H3.out.2.2.2.2.mono (Nat.le_trans H1.out.2.2.size H2.out.2.2.size)))
 have C13 := Lib.hid (k13 b1 _ w3 Z1.out)
 obtain ⟨PX, QX, eX, rX⟩ := al_X
 obtain ⟨PY, QY, eY, rY⟩ := al_Y
 obtain ⟨PZ, QZ, eZ, rZ⟩ := al_Z
 have CX := Lib.hid (fun (w4 : World) (h : EzAt w4 b2 alC) => rX b2 w4 h)
 have CY := Lib.hid (fun (w4 : World) (h : EzAt w4 b2 alC) => rY b2 w4 h)
 have CZ := Lib.hid (fun (w4 : World) (h : EzAt w4 b1 (.steps 3 2)) => rZ b1 w4 h)
 have EX := Lib.hid eX
 have EY := Lib.hid eY
 have EZ := Lib.hid eZ
 clear rX rY rZ eX eY eZ AU
 go_wp2_with (first
  | (go_at_call 13; refine C13.out.mono ?_; rintro e w4 ⟨⟨s4, rfl, hs4⟩, rfl⟩; have q4 := tl_true s4 [115, 116, 101, 112, 115, 40, 51, 44, 32, 106, 117, 109, 112, 45, 101, 110, 100, 41] (hs4.trans al_t); clear hs4)
  | (go_at_call 15; (with_reducible refine (CX.out _ Z2.out).mono ?_); rintro e w5 ⟨⟨r5, rfl, hr5⟩, hb5⟩; have q5 := (hr5.eq_ EX.out.1).trans EX.out.2; have B5 := Lib.hid hb5; clear hr5 hb5)
  | (go_at_call 15; (with_reducible refine (CY.out _ (Z2.out.below B5.out)).mono ?_); rintro e w6 ⟨⟨r6, rfl, hr6⟩, hb6⟩; have q6 := (hr6.eq_ EY.out.1).trans EY.out.2; have B6 := Lib.hid hb6; clear hr6 hb6)
  | (go_at_call 15; (with_reducible refine (CZ.out _ ((Z1.out.below B5.out).below B6.out)).mono ?_); rintro e w7 ⟨⟨r7, rfl, hr7⟩, hb7⟩; have q7 := (hr7.eq_ EZ.out.1).trans EZ.out.2; have B7 := Lib.hid hb7; clear hr7 hb7))
 go_ret
 refine ⟨rfl, ?_⟩
 have s3 := BB.out.size
 have s5 := B5.out.size
 have s6 := B6.out.size
 exact ((BB.out.trans (B5.out.mono s3)).trans (B6.out.mono (by omega))).trans (B7.out.mono (by omega))
end Go.Proofs.YtlgencbldbpbdaaGreatDoor
namespace Go.Proofs.YtlgencbldbpbdaaGreatDoor
open Go.RowKit Fl
theorem bl_take (s : ByteArray) (k : Nat) : bl (s.extract 0 k) = (bl s).take k := by
 unfold bl
 rw [ByteArray.data_extract, Array.toList_extract, List.extract_eq_take_drop, List.drop_zero, Nat.sub_zero, List.map_take]
theorem jName_len {j : Nat} (h1 : 1 ≤ j) (h2 : j ≤ 4) : 8 ≤ (jName j).length ∧ (jName j).length ≤ 10 := by
 have : j = 1 ∨ j = 2 ∨ j = 3 ∨ j = 4 := by omega
 rcases this with rfl | rfl | rfl | rfl <;> exact ⟨by decide, by decide⟩
end Go.Proofs.YtlgencbldbpbdaaGreatDoor
namespace Go.Proofs.YtlgencbldbpbdaaGreatDoor
open Go.RowKit Fl
def argE (W t : List Nat) : Option (List Nat) := if W.length + 2 ≤ t.length ∧ t.take W.length = W ∧ t[W.length]? = some 40 ∧ t.getLast? = some 41 then some ((t.drop (W.length + 1)).dropLast) else none
theorem argE_some {W t mid : List Nat} (h : argE W t = some mid) : t = W ++ 40 :: (mid ++ [41]) := by
 unfold argE at h
 split at h
 ·next c =>
  obtain ⟨c1, c2, c3, c4⟩ := c
  injection h with h
  have e1 : t = W ++ t.drop W.length := by
   have := (List.take_append_drop W.length t).symm
   rw [c2] at this
   exact this
  have e2 : t.drop W.length = 40 :: t.drop (W.length + 1) := by
   rw [List.drop_eq_getElem_cons (by omega)]
   congr 1
   rw [List.getElem?_eq_getElem (by omega)] at c3
   exact Option.some.inj c3
  have e3 : t.drop (W.length + 1) = mid ++ [41] := by
   rw [← h]
   have hl : (t.drop (W.length + 1)).getLast? = some 41 := by
    rw [List.getLast?_drop, if_neg (by omega)]
    exact c4
   rcases List.eq_nil_or_concat (t.drop (W.length + 1)) with e | ⟨a, x, e⟩
   ·rw [e] at hl; cases hl
   ·rw [e, List.concat_eq_append] at hl ⊢
    rw [List.getLast?_concat] at hl
    injection hl with hl
    subst hl
    rw [List.dropLast_concat]
  rw [e1, e2, e3]
 ·cases h
theorem argE_of {W t mid : List Nat} (h : t = W ++ 40 :: (mid ++ [41])) : argE W t = some mid := by
 unfold argE
 rw [if_pos]
 ·rw [h, List.drop_append]
  simp
 ·rw [h]
  refine ⟨by simp, by simp, by simp, ?_⟩
  rw [show W ++ 40 :: (mid ++ [41]) = (W ++ 40 :: mid) ++ [41] by simp, List.getLast?_concat]
def refF (t : List Nat) : Option Ez := match argE aCubic t with
 | some m => curveF ((splN 44 m).map trimN)
 | none => match argE aStepsW t with
    | some m => stepsF ((splN 44 m).map trimN)
    | none => match argE aLinear t with
   | some m => ptsF ((splN 44 m).map trimN)
   | none => none
theorem arg_word {W t mid : List Nat} (h : argE W t = some mid) (h40 : ¬ 40 ∈ W) : argF t = fnF W ((splN 44 mid).map trimN) := by
 have e := argE_some h
 obtain ⟨e1, e2⟩ := befN_app (r := mid ++ [41]) 40 h40
 rw [← e] at e1 e2
 rw [arg_fn (by rw [e]; simp) (by rw [e2]; exact List.getLast?_concat ..), e1, e2, List.dropLast_concat]
theorem befN_split {t : List Nat} (h : 40 ∈ t) : t = befN 40 t ++ 40 :: aftN 40 t := by
 unfold befN aftN
 induction t with
 | nil => cases h
 | cons x l ih =>
   rw [List.takeWhile_cons, List.dropWhile_cons]
   by_cases hx : x = 40
   ·subst hx; rw [if_neg (by simp), if_neg (by simp)]; rfl
   ·have hm : 40 ∈ l := by
     rcases List.mem_cons.1 h with h | h
     ·exact absurd h.symm hx
     ·exact h
    rw [if_pos (by simpa using hx), if_pos (by simpa using hx), List.cons_append, ← ih hm]
theorem ref_arg (t : List Nat) : refF t = argF t := by
 unfold refF
 cases h1 : argE aCubic t with
 | some m => rw [arg_word h1 (by decide), fnF_c]
 | none =>
   cases h2 : argE aStepsW t with
   | some m => rw [arg_word h2 (by decide), fnF_s]
   | none =>
     cases h3 : argE aLinear t with
     | some m => rw [arg_word h3 (by decide), fnF_l]
     | none =>
       show none = argF t
       unfold argF
       split
       ·next c =>
        obtain ⟨c1, c2⟩ := c
        obtain ⟨mid, hm⟩ : ∃ mid, aftN 40 t = mid ++ [41] := by
         rcases List.eq_nil_or_concat (aftN 40 t) with e | ⟨a, x, e⟩
         ·rw [e] at c2; cases c2
         ·rw [e, List.concat_eq_append, List.getLast?_concat] at c2
          injection c2 with c2
          subst c2
          exact ⟨a, by rw [e, List.concat_eq_append]⟩
        have e := befN_split c1
        rw [hm] at e
        have k : ∀ W, argE W t = none → befN 40 t ≠ W := fun W hW e2 => by
         rw [e2] at e
         rw [argE_of e] at hW; cases hW
        rw [fn_none _ (k _ h1) (k _ h2) (k _ h3)]
       ·rfl
theorem tl_iff (a b : ByteArray) : (a.toList == b.toList) = decide (bl a = bl b) := by
 rw [Bool.eq_iff_iff, beq_iff_eq, decide_eq_true_iff, ByteArray.toList_eq, ByteArray.toList_eq]
 unfold bl
 constructor
 ·intro h; rw [h]
 ·intro h; exact (List.map_inj_right (fun x y h => UInt8.toNat_inj.1 h)).1 h
theorem wrap_next {k m : Nat} (h : k < m) (hm : m ≤ 2001) : wrap64 ((k : Int) + 1) = ((k + 1 : Nat) : Int) := by unfold wrap64; omega
theorem meas_next {k m : Nat} (h : k < m) : m - (((k + 1 : Nat) : Int)).toNat < m - ((k : Nat) : Int).toNat := by omega
def ArgR (w : World) (R : Option (List Nat)) (e : Ending) (w' : World) : Prop := (match R with
    | none => e = .returned (.tuple #[.slice none 0 0, .bool false])
    | some m => ∃ u zs, e = .returned (.tuple #[u, .bool true]) ∧ zs.map bl = (splN 44 m).map trimN ∧ (∀ z ∈ zs, z.size ≤ 2000) ∧ w'.ownsRow w.heap.size 9 1 u zs.length (sv zs)) ∧ Below w.heap.size w w'
set_option maxRecDepth 100000 in
set_option maxHeartbeats 4000000 in
theorem k55 (s v : ByteArray) (w : World) (hs : s.size ≤ 2000) (hv : v.size ≤ 12) : Calls Tryz.prog 55 #[.string s, .string v] w fun e w' => ArgR w (argE (bl v) (bl s)) e w' := by
 obtain ⟨R, hR⟩ : ∃ R, R = argE (bl v) (bl s) := ⟨_, rfl⟩
 rw [← hR]
 have HR := Lib.hid hR
 have HS := Lib.hid (And.intro hs hv)
 obtain ⟨n, hn⟩ : ∃ n, n = v.size := ⟨_, rfl⟩
 have LS' := Lib.hid (And.intro (bl_len s) (hn ▸ bl_len v))
 have n2 : wrap64 ((n : Int) + 2) = ((n + 2 : Nat) : Int) := by unfold wrap64; omega
 have n1 : wrap64 ((n : Int) + 1) = ((n + 1 : Nat) : Int) := by unfold wrap64; omega
 have hvn : (v.size : Int) = (n : Int) := by omega
 have NO : Hid (¬ ((bl v).length + 2 ≤ (bl s).length ∧ (bl s).take (bl v).length = bl v ∧ (bl s)[(bl v).length]? = some 40 ∧ (bl s).getLast? = some 41) → R = none) := Lib.hid (fun h => by rw [HR.out]; unfold argE; rw [if_neg h])
 by_cases h1 : s.size < n + 2
 ·have e1 := Lib.hid (NO.out (fun c => by have h3 := LS'.out.1; have h4 := LS'.out.2; omega))
  have c1 : (s.size : Int) < ((n + 2 : Nat) : Int) := by omega
  clear hn hs hv h1 hR
  go_enter Tryz.func55, Tryz.ntmps55
  go_wp2_with fail
  go_ret2
  rw [e1.out]
  exact ⟨rfl, Below.refl _ _⟩
 have c1 : ¬ (s.size : Int) < ((n + 2 : Nat) : Int) := by omega
 have c2 : (n : Int) ≤ (s.size : Int) := by omega
 have c3 : (0 : Int) ≤ (n : Int) := by omega
 have c4 : (n : Int) < (s.size : Int) := by omega
 have hns : n < s.size := by omega
 obtain ⟨j, hj⟩ : ∃ j, s.size = j + 1 := ⟨s.size - 1, by omega⟩
 have hjs : j < s.size := by omega
 have k1 : wrap64 ((s.size : Int) - 1) = (j : Int) := by unfold wrap64; omega
 have c5 : (0 : Int) ≤ (j : Int) := by omega
 have c6 : (j : Int) < (s.size : Int) := by omega
 have c7 : (j : Int) ≤ (s.size : Int) := by omega
 have c8 : ((n + 1 : Nat) : Int) ≤ (j : Int) := by omega
 have c9 : (0 : Int) ≤ ((n + 1 : Nat) : Int) := by omega
 have qe := tl_iff (s.extract 0 n) v
 rw [bl_take] at qe
 have xn := bl_get s n hns
 have xj := bl_get s j hjs
 have gl : (bl s).getLast? = some (s[j]'hjs).toNat := by rw [List.getLast?_eq_getElem?, LS'.out.1, hj, Nat.add_sub_cancel]; exact xj
 by_cases h2 : (bl s).take n = bl v
 case neg =>
  rw [decide_eq_false h2] at qe
  have e1 := Lib.hid (NO.out (fun c => h2 (by have := c.2.1; rw [LS'.out.2] at this; exact this)))
  clear hj hn hs hv h1 hR h2 xn xj gl
  go_enter Tryz.func55, Tryz.ntmps55
  go_wp2_with fail
  go_ret2
  rw [e1.out]
  exact ⟨rfl, Below.refl _ _⟩
 rw [decide_eq_true h2] at qe
 by_cases h3 : (s[n]'hns).toNat = 40
 case neg =>
  have b3 : (((s[n]'hns).toNat : Int) != 40) = true := bne_iff_ne.2 (by omega)
  have e1 := Lib.hid (NO.out (fun c => h3 (by have := c.2.2.1; rw [LS'.out.2, xn] at this; exact Option.some.inj this)))
  clear hj hn hs hv h1 hR h2 xn xj gl h3
  go_enter Tryz.func55, Tryz.ntmps55
  go_wp2_with fail
  go_ret2
  rw [e1.out]
  exact ⟨rfl, Below.refl _ _⟩
 have b3 : ((s[n]'hns).toNat : Int) = 40 := by omega
 by_cases h4 : (s[j]'hjs).toNat = 41
 case neg =>
  have b4 : (((s[j]'hjs).toNat : Int) != 41) = true := bne_iff_ne.2 (by omega)
  have e1 := Lib.hid (NO.out (fun c => h4 (by have := c.2.2.2; rw [gl] at this; exact Option.some.inj this)))
  clear hj hn hs hv h1 hR h2 xn xj gl h3 h4
  go_enter Tryz.func55, Tryz.ntmps55
  go_wp2_with fail
  go_ret2
  rw [e1.out]
  exact ⟨rfl, Below.refl _ _⟩
 have b4 : ((s[j]'hjs).toNat : Int) = 41 := by omega
 have YES : Hid (R = some (bl (s.extract (n + 1) j))) := Lib.hid (by
  rw [HR.out]
  unfold argE
  have e1 := LS'.out.1
  have e2 := LS'.out.2
  rw [if_pos ⟨by omega, by rw [e2]; exact h2, by rw [e2, xn, h3], by rw [gl, h4]⟩]
  congr 1
  rw [bl_extract, e2, List.dropLast_eq_take, List.length_drop, e1, hj, List.drop_take]
  congr 1
  omega)
 have C99 := Lib.hid (k99 (s.extract (n + 1) j) 44 w (by rw [ByteArray.size_extract]; omega) (by decide))
 have XS : Hid ((bl (s.extract (n + 1) j)).length ≤ 2000) := Lib.hid (by rw [bl_len, ByteArray.size_extract]; omega)
 obtain ⟨mid, hmid⟩ : ∃ m, m = bl (s.extract (n + 1) j) := ⟨_, rfl⟩
 rw [← hmid] at YES C99 XS
 clear hj hn hs hv h1 hR h2 xn xj gl h3 h4 hmid
 go_enter Tryz.func55, Tryz.ntmps55
 go_upto_region 5 with (go_at_call 99; refine C99.out.mono ?_; rintro e w3 ⟨⟨u, ps, rfl, hps, hown⟩, hb⟩; have HP := Lib.hid (And.intro hps hown); have B3 := Lib.hid hb; clear hps hown hb)
 have pl1 : 0 < ps.length := by
  have h1 := congrArg List.length HP.out.1
  rw [List.length_map] at h1
  rw [h1]
  exact List.length_pos_iff.2 (splN_ne 44 mid)
 obtain ⟨g, cap, rfl, gB, gS, gc, -⟩ := own_cells HP.out.2 pl1
 obtain ⟨m, hm⟩ : ∃ m, m = ps.length := ⟨_, rfl⟩
 rw [← hm] at HP ⊢
 have PLN := Lib.hid (And.intro hm (show m ≤ 2001 by
  have h1 := congrArg List.length HP.out.1
  rw [List.length_map] at h1
  have h2 := splN_length 44 mid
  have := XS.out
  omega))
 have PSZ : Hid (∀ v ∈ ps, v.size ≤ 2000) := Lib.hid (fun v hv => by
  have h1 := splN_len 44 mid (bl v) (by rw [← HP.out.1]; exact List.mem_map_of_mem hv)
  rw [bl_len] at h1
  have := XS.out
  omega)
 have GB := Lib.hid gB
 have S0 : Hid (w3.ownsRow w.heap.size 9 1 (.slice (some ⟨g, 0, none⟩) m cap) m (sv ([] ++ ps.drop 0))) := Lib.hid HP.out.2
 clear hm pl1 gB gS gc C99 qe
 go_wp2_with fail
 go_loopw [8] (fun i wx => ∃ (k : Nat) (zs : List ByteArray), k ≤ m ∧ i = .int .i64 k ∧ Hid (zs.length = k ∧ zs.map bl = ((ps.take k).map bl).map trimN ∧ ∀ z ∈ zs, z.size ≤ 2000) ∧ Hid (wx.ownsRow w.heap.size 9 1 (.slice (some ⟨g, 0, none⟩) m cap) m (sv (zs ++ ps.drop k))) ∧ Hid (Below w.heap.size w wx)) (fun i _ => m - (Lib.intOf i).toNat)
 case atStart => exact ⟨0, [], Nat.zero_le _, rfl, Lib.hid ⟨rfl, rfl, fun z h => by cases h⟩, S0, B3⟩
 case round =>
  clear S0 B3
  obtain ⟨k, zs, hk, rfl, hZ, hO, hB⟩ := hrel
  by_cases hlt : k < m
  ·have hki : (k : Int) < (m : Int) := by omega
   obtain ⟨v1, hv1⟩ : ∃ v1, ps[k]? = some v1 := ⟨ps[k]'(by have := PLN.out.1; omega), List.getElem?_eq_getElem _⟩
   obtain ⟨g', cap', eg, -, gS, -, kcs⟩ := own_cells hO.out (by omega)
   injection eg with a1 a2 a3
   injection a1 with a1
   injection a1 with a1
   subst a1
   clear a2 a3
   have hgk : (sv (zs ++ ps.drop k))[k]? = some (.string v1) := by unfold sv; rw [List.getElem?_map, get_next hZ.out.1 hv1]; rfl
   have kc := kcs k _ hgk
   have sv1 := PSZ.out v1 (List.mem_of_getElem? hv1)
   have C54 := Lib.hid (fun (w1 : World) => k54 v1 w1 (by omega))
   have HV := Lib.hid (And.intro hv1 (And.intro hlt sv1))
   have kf := hO.out.frozenAt k
   clear hv1 hlt sv1 hk gS kcs hgk
   go_wp2_with (go_at_call 54; refine (C54.out _).mono ?_; rintro e w5 ⟨⟨y5, rfl, hy, hys⟩, rfl⟩; have HY := Lib.hid (And.intro hy hys); clear hy hys)
   go_roundw
   case rel =>
    have hb := PLN.out.2
    have hb2 := HV.out.2.1
    refine ⟨k + 1, zs ++ [y5], hb2, by first | rw [wrap_next hb2 hb] | rfl, Lib.hid ⟨by rw [List.length_append, hZ.out.1]; rfl, ?_, ?_⟩, Lib.hid ?_, Lib.hid (hB.out.setCell (p := ⟨g, k, none⟩) GB.out _)⟩
    ·rw [take_next HV.out.1, List.map_append, List.map_append, List.map_append, hZ.out.2.1, List.map_cons, HY.out.1]; rfl
    ·intro z hz
     rcases List.mem_append.1 hz with hz | hz
     ·exact hZ.out.2.2 z hz
     ·rw [List.mem_singleton.1 hz]; exact Nat.le_trans HY.out.2 HV.out.2.2
    ·have h5 := owned_put3 (j := k) hO.out (.string y5)
     have e5 : (sv (zs ++ ps.drop k)).set k (.string y5) = sv (zs ++ [y5] ++ ps.drop (k + 1)) := by
      unfold sv
      rw [← set_next hZ.out.1 (by have := PLN.out.1; omega) y5, List.map_set]
     rw [e5] at h5
     exact h5
   case measure =>
    first
     | exact meas_next HV.out.2.1
     | (rw [wrap_next HV.out.2.1 PLN.out.2]; exact meas_next HV.out.2.1)
  ·have hki : ¬ (k : Int) < (m : Int) := by omega
   have e : k = m := by omega
   subst e
   have FIN : Hid (zs.map bl = (splN 44 mid).map trimN ∧ (∀ z ∈ zs, z.size ≤ 2000) ∧ zs.length = k ∧ wr.ownsRow w.heap.size 9 1 (.slice (some ⟨g, 0, none⟩) k cap) k (sv zs)) := Lib.hid (by
    have hd : ps.drop k = [] := List.drop_of_length_le (by have := PLN.out.1; omega)
    have h1 := hO.out
    rw [hd, List.append_nil] at h1
    have h2 := hZ.out.2.1
    rw [List.take_of_length_le (by have := PLN.out.1; omega), HP.out.1] at h2
    exact ⟨h2, hZ.out.2.2, hZ.out.1, h1⟩)
   clear hO hZ
   go_wp2_with fail
   go_ret2
   rw [YES.out]
   exact ⟨⟨_, zs, rfl, FIN.out.1, FIN.out.2.1, by rw [FIN.out.2.2.1]; exact FIN.out.2.2.2⟩, hB.out⟩
end Go.Proofs.YtlgencbldbpbdaaGreatDoor
namespace Go.Proofs.YtlgencbldbpbdaaGreatDoor
open Go.RowKit Fl
theorem dval_snocR (l : List Nat) (x : Nat) : dval (l ++ [x]) = dval l * 10 + (x - 48) := by
 unfold dval
 rw [List.foldl_append]
 rfl
theorem allD_snoc (l : List Nat) (x : Nat) : allD (l ++ [x]) = (allD l && decide (48 ≤ x ∧ x ≤ 57)) := by
 unfold allD
 rw [List.all_append]
 simp
theorem allD_bad {l : List Nat} {k x : Nat} (hk : l[k]? = some x) (h : ¬ (48 ≤ x ∧ x ≤ 57)) : allD l = false := by
 unfold allD
 rw [List.all_eq_false]
 exact ⟨x, List.mem_of_getElem? hk, by rw [decide_eq_false h]; decide⟩
def whB (l : List Nat) : Bool := allD l && decide (1 ≤ l.length) && decide (l.length ≤ 9)
theorem wh_step {v x : Nat} (h : v ≤ 999999999) (h2 : 48 ≤ x ∧ x ≤ 57) : wrap64 (10 * (v : Int)) = ((10 * v : Nat) : Int) ∧ wrap64 (10 * (v : Int) + ((x - 48 : Nat) : Int)) = ((v * 10 + (x - 48) : Nat) : Int) := by
 unfold wrap64; omega
theorem dval_takeR {l : List Nat} (h : allD l = true) {k : Nat} (hk : k ≤ 9) : dval (l.take k) ≤ 999999999 := by
 refine dval_lt9 ?_ (by rw [List.length_take]; omega)
 unfold allD at h ⊢
 rw [List.all_eq_true] at h ⊢
 exact fun x hx => h x (List.mem_of_mem_take hx)
set_option maxRecDepth 100000 in
set_option maxHeartbeats 4000000 in
theorem k101 (s : ByteArray) (w : World) (hs : s.size ≤ 2000) : Calls Tryz.prog 101 #[.string s] w fun e w' => (∃ v : Nat, e = .returned (.tuple #[.int .i64 v, .bool (whB (bl s))]) ∧ (whB (bl s) = true → v = dval (bl s))) ∧ w = w' := by
 obtain ⟨B, hB⟩ : ∃ B, B = whB (bl s) := ⟨_, rfl⟩
 rw [← hB]
 have HB := Lib.hid hB
 have HS := Lib.hid hs
 have LB := Lib.hid (bl_len s)
 clear hB hs
 go_enter Tryz.func101, Tryz.ntmps101
 go_wp2_with fail
 go_loopw [4, 5] (fun t i wx => ∃ (k v : Nat), k ≤ s.size ∧ i = .int .i64 k ∧ t = .int .i64 v ∧ Hid (allD ((bl s).take k) = true ∧ v = dval ((bl s).take (min k 9)) ∧ v ≤ 999999999) ∧ wx = w) (fun _ i _ => s.size - (Lib.intOf i).toNat)
 case atStart => exact ⟨0, 0, Nat.zero_le _, rfl, rfl, Lib.hid ⟨rfl, rfl, by decide⟩, rfl⟩
 case round =>
  obtain ⟨k, v, hk, rfl, rfl, hI, rfl⟩ := hrel
  by_cases hlt : k < s.size
  ·have ki : (k : Int) < (s.size : Int) := by omega
   have k0 : (0 : Int) ≤ (k : Int) := Int.natCast_nonneg k
   have hx := bl_get s k hlt
   obtain ⟨x, hxe⟩ : ∃ x, x = (s[k]'hlt).toNat := ⟨_, rfl⟩
   have xc : ((s[k]'hlt).toNat : Int) = (x : Int) := by rw [hxe]
   rw [← hxe] at hx
   have x256 : x < 256 := by rw [hxe]; exact (s[k]'hlt).toNat_lt
   have HX := Lib.hid hx
   have HL := Lib.hid hlt
   clear hx hk
   by_cases hd : 48 ≤ x ∧ x ≤ 57
   ·have d1 : ¬ (x : Int) < 48 := by omega
    have d2 : ¬ (x : Int) > 57 := by omega
    have w8 : IntKind.u8.wrap ((x : Int) - 48) = ((x - 48 : Nat) : Int) := by rw [IntKind.wrap_u8]; omega
    have HD := Lib.hid hd
    have TK : Hid ((bl s).take (k + 1) = (bl s).take k ++ [x]) := Lib.hid (by rw [List.take_add_one, HX.out]; rfl)
    have A2 : Hid (allD ((bl s).take (k + 1)) = true) := Lib.hid (by rw [TK.out, allD_snoc, hI.out.1, decide_eq_true HD.out]; rfl)
    clear hd hxe x256
    by_cases h9 : k < 9
    ·have h9i : (k : Int) < 9 := by omega
     have V2 : Hid (v * 10 + (x - 48) = dval ((bl s).take (min (k + 1) 9))) := Lib.hid (by
      rw [Nat.min_eq_left (by omega), TK.out, dval_snocR, hI.out.2.1, Nat.min_eq_left (by omega)])
     have V3 : Hid (v * 10 + (x - 48) ≤ 999999999) := Lib.hid (by
      rw [V2.out]
      have h := dval_takeR (l := (bl s).take (k + 1)) A2.out (k := 9) (Nat.le_refl _)
      rw [List.take_take, Nat.min_comm] at h
      exact h)
     obtain ⟨s1, s2⟩ := wh_step hI.out.2.2 HD.out
     clear h9
     go_wp2_with fail
     go_roundw
     case rel =>
      exact ⟨k + 1, v * 10 + (x - 48), HL.out, by first | rw [wrap_next (m := s.size) HL.out (by have := HS.out; omega)] | rfl, by rw [s2], Lib.hid ⟨A2.out, V2.out, V3.out⟩, trivial⟩
     case measure =>
      first
       | exact meas_next HL.out
       | (rw [wrap_next (m := s.size) HL.out (by have := HS.out; omega)]; exact meas_next HL.out)
    ·have h9i : ¬ (k : Int) < 9 := by omega
     have V2 : Hid (v = dval ((bl s).take (min (k + 1) 9))) := Lib.hid (by rw [hI.out.2.1, Nat.min_eq_right (by omega), Nat.min_eq_right (by omega)])
     clear h9
     go_wp2_with fail
     go_roundw
     case rel =>
      exact ⟨k + 1, v, HL.out, by first | rw [wrap_next (m := s.size) HL.out (by have := HS.out; omega)] | rfl, rfl, Lib.hid ⟨A2.out, V2.out, hI.out.2.2⟩, trivial⟩
     case measure =>
      first
       | exact meas_next HL.out
       | (rw [wrap_next (m := s.size) HL.out (by have := HS.out; omega)]; exact meas_next HL.out)
   ·have EB : Hid (B = false) := Lib.hid (by rw [HB.out]; unfold whB; rw [allD_bad HX.out hd]; rfl)
    by_cases d1 : x < 48
    ·have d1i : (x : Int) < 48 := by omega
     clear d1 hd hxe x256
     go_wp2_with fail
     go_ret2
     exact ⟨⟨0, by rw [EB.out]; rfl, fun h => by rw [EB.out] at h; cases h⟩, rfl⟩
    ·have d1i : ¬ (x : Int) < 48 := by omega
     have d2i : (x : Int) > 57 := by omega
     clear d1 hd hxe x256
     go_wp2_with fail
     go_ret2
     exact ⟨⟨0, by rw [EB.out]; rfl, fun h => by rw [EB.out] at h; cases h⟩, rfl⟩
  ·have ki : ¬ (k : Int) < (s.size : Int) := by omega
   have e : k = s.size := by omega
   subst e
   have D : Hid (allD (bl s) = true ∧ (s.size ≤ 9 → v = dval (bl s))) := Lib.hid (by
    obtain ⟨h1, h2, -⟩ := hI.out
    rw [← LB.out, List.take_length] at h1
    refine ⟨h1, fun h => ?_⟩
    rw [h2, Nat.min_eq_left h, ← LB.out, List.take_length])
   by_cases c1 : 1 ≤ s.size
   ·have c1i : (1 : Int) ≤ (s.size : Int) := by omega
    by_cases c2 : s.size ≤ 9
    ·have c2i : (s.size : Int) ≤ 9 := by omega
     have EB : Hid (B = true) := Lib.hid (by rw [HB.out]; unfold whB; rw [D.out.1, LB.out, decide_eq_true c1, decide_eq_true c2]; rfl)
     have C2 := Lib.hid c2
     clear c1 c2 hlt
     go_wp2_with fail
     go_ret2
     exact ⟨⟨v, by rw [EB.out]; rfl, fun _ => D.out.2 C2.out⟩, rfl⟩
    ·have c2i : ¬ (s.size : Int) ≤ 9 := by omega
     have EB : Hid (B = false) := Lib.hid (by rw [HB.out]; unfold whB; rw [D.out.1, LB.out, decide_eq_true c1, decide_eq_false c2]; rfl)
     clear c1 c2 hlt
     go_wp2_with fail
     go_ret2
     exact ⟨⟨v, by rw [EB.out]; rfl, fun h => by rw [EB.out] at h; cases h⟩, rfl⟩
   ·have c1i : ¬ (1 : Int) ≤ (s.size : Int) := by omega
    have EB : Hid (B = false) := Lib.hid (by rw [HB.out]; unfold whB; rw [D.out.1, LB.out, decide_eq_false c1]; rfl)
    clear c1 hlt
    go_wp2_with fail
    go_ret2
    exact ⟨⟨v, by rw [EB.out]; rfl, fun h => by rw [EB.out] at h; cases h⟩, rfl⟩
end Go.Proofs.YtlgencbldbpbdaaGreatDoor
namespace Go.Proofs.YtlgencbldbpbdaaGreatDoor
open Go.RowKit Fl
def FSl (w : World) (v : Value) (qs : List Nat) : Prop := (qs = [] ∧ v = .slice none 0 0) ∨ ∃ g c, v = .slice (some ⟨g, 0, none⟩) qs.length c ∧ g < w.heap.size ∧ ∀ (j q : Nat), qs[j]? = some q → w.cell? ⟨g, j, none⟩ = some (.float .f64 q)
def PtsAt (w : World) (v : Value) (ps : List (Nat × List Nat)) : Prop := ∃ A c, v = .slice (some ⟨A, 0, none⟩) ps.length c ∧ A < w.heap.size ∧ ∀ (k : Nat) p, ps[k]? = some p → w.cell? ⟨A, k * 2, none⟩ = some (.float .f64 p.1) ∧ ∃ u, w.cell? ⟨A, k * 2 + 1, none⟩ = some u ∧ FSl w u p.2
def SLI (v : Value) : Prop := ∃ a m c, v = .slice a m c
theorem sli0 : SLI (.slice none 0 0) := ⟨none, 0, 0, rfl⟩
def VZ (v : Value) : Prop := ∃ (h a b c d : Nat) (n : Int) (J : ByteArray) (L i o : Value), v = .agg #[.int .u8 h, .float .f64 a, .float .f64 b, .float .f64 c, .float .f64 d, .int .i64 n, .string J, L, i, o] ∧ SLI L ∧ SLI i ∧ SLI o
theorem vz_mk {h a b c d : Nat} {n : Int} {J : ByteArray} {L i o : Value} (h1 : SLI L) (h2 : SLI i) (h3 : SLI o) : VZ (.agg #[.int .u8 h, .float .f64 a, .float .f64 b, .float .f64 c, .float .f64 d, .int .i64 n, .string J, L, i, o]) := ⟨h, a, b, c, d, n, J, L, i, o, rfl, h1, h2, h3⟩
def REz (w : World) (z : Ez) (v : Value) : Prop := ∃ (h a b c d : Nat) (n : Int) (J : ByteArray) (L i o : Value), v = .agg #[.int .u8 h, .float .f64 a, .float .f64 b, .float .f64 c, .float .f64 d, .int .i64 n, .string J, L, i, o] ∧ SLI L ∧ SLI i ∧ SLI o ∧ (match z with
 | .line => h = 108
 | .curve a' b' c' d' => h = 99 ∧ a = a' ∧ b = b' ∧ c = c' ∧ d = d'
 | .steps n' j => h = 115 ∧ n = n' ∧ bl J = jName j
 | .pts ps => h = 112 ∧ PtsAt w L ps)
def RefR (w : World) (R : Option Ez) (e : Ending) (w' : World) : Prop := (match R with
 | none => ∃ v, e = .returned (.tuple #[v, .bool false]) ∧ VZ v
 | some z => ∃ v, e = .returned (.tuple #[v, .bool true]) ∧ REz w' z v) ∧ Below w.heap.size w w'
theorem chk_whB {a : List Nat} (h : whB a = false) (j : Nat) : chkF a j = none := by
 unfold whB at h
 unfold chkF
 rw [if_pos]
 by_cases h1 : allD a = false
 ·exact .inr (.inr (.inl h1))
 ·have h2 : allD a = true := by cases h3 : allD a <;> simp_all
  rw [h2, Bool.true_and, Bool.and_eq_false_iff, decide_eq_false_iff_not, decide_eq_false_iff_not] at h
  rcases h with h | h
  ·exact .inr (.inr (.inr (List.eq_nil_of_length_eq_zero (by omega))))
  ·exact .inr (.inl (by omega))
theorem chk_true {a : List Nat} (h : whB a = true) {j : Nat} (hj : j ≠ 0) : chkF a j = if dval a < 1 ∨ (j = 3 ∧ dval a < 2) then none else some (.steps (dval a) j) := by
 unfold whB at h
 simp only [Bool.and_eq_true, decide_eq_true_eq] at h
 unfold chkF
 rw [if_neg]
 rintro (c | c | c | c)
 ·exact hj c
 ·omega
 ·rw [h.1.1] at c; cases c
 ·rw [c] at h; have := h.1.2; simp at this
theorem chk_zero (a : List Nat) : chkF a 0 = none := by unfold chkF; rw [if_pos (.inl rfl)]
theorem ref_steps {w w' : World} {R : Option Ez} {a : List Nat} {j : Nat} {J : ByteArray} {v : Nat} {b : Bool} {f1 f2 f3 f4 : Nat} (hR : R = chkF a j) (hw : whB a = true) (hv : v = dval a) (hJ : j ≠ 0 → bl J = jName j) (hb : b = (decide (j ≠ 0) && !(decide (dval a < 1 ∨ (j = 3 ∧ dval a < 2))))) (hB : Below w.heap.size w w') : RefR w R (.returned (.tuple #[.agg #[.int .u8 115, .float .f64 f1, .float .f64 f2, .float .f64 f3, .float .f64 f4, .int .i64 v, .string J, .slice none 0 0, .slice none 0 0, .slice none 0 0], .bool b])) w' := by
 by_cases h0 : j = 0
 ·subst h0
  rw [hR, chk_zero, hb]
  exact ⟨⟨_, rfl, vz_mk sli0 sli0 sli0⟩, hB⟩
 ·rw [hR, chk_true hw h0]
  rw [decide_eq_true h0, Bool.true_and] at hb
  by_cases c : dval a < 1 ∨ (j = 3 ∧ dval a < 2)
  ·rw [if_pos c]
   rw [decide_eq_true c] at hb
   rw [hb]
   exact ⟨⟨_, rfl, vz_mk sli0 sli0 sli0⟩, hB⟩
  ·rw [if_neg c]
   rw [decide_eq_false c] at hb
   rw [hb]
   exact ⟨⟨_, rfl, 115, f1, f2, f3, f4, v, J, .slice none 0 0, .slice none 0 0, .slice none 0 0, rfl, sli0, sli0, sli0, rfl, by rw [hv], hJ h0⟩, hB⟩
theorem fin_t {d j : Nat} (hj : j ≠ 0) (h : ¬ (d < 1 ∨ (j = 3 ∧ d < 2))) : true = (decide (j ≠ 0) && !(decide (d < 1 ∨ (j = 3 ∧ d < 2)))) := by rw [decide_eq_true hj, decide_eq_false h]; rfl
theorem fin_f {d j : Nat} (h : j = 0 ∨ d < 1 ∨ (j = 3 ∧ d < 2)) : false = (decide (j ≠ 0) && !(decide (d < 1 ∨ (j = 3 ∧ d < 2)))) := by
 by_cases h0 : j = 0
 ·rw [decide_eq_false (not_not_intro h0)]; rfl
 ·rw [decide_eq_true h0, decide_eq_true (h.resolve_left h0)]; rfl
set_option maxRecDepth 100000 in
set_option maxHeartbeats 4000000 in
theorem k57_1 (A : Nat) (x0 : ByteArray) (c : Nat) (w : World) (hw : LS w A [x0]) (hs : x0.size ≤ 2000) : Calls Tryz.prog 57 #[.slice (some ⟨A, 0, none⟩) 1 c] w fun e w' => RefR w (stepsF ([x0].map bl)) e w' := by
 obtain ⟨R, hR⟩ : ∃ R, R = stepsF ([x0].map bl) := ⟨_, rfl⟩
 rw [← hR]
 have HR := Lib.hid hR
 have k0 : ∀ o : Obj, (w.alloc o).cell? ⟨A, 0, none⟩ = some (.string x0) := fun o => (((Below.refl _ w).alloc (Nat.le_refl _) o).cell (p := ⟨A, 0, none⟩) hw.1).trans (hw.2 0 x0 rfl)
 have C := Lib.hid (fun (w1 : World) => k101 x0 w1 hs)
 obtain ⟨B, hB⟩ : ∃ B, B = whB (bl x0) := ⟨_, rfl⟩
 rw [← hB] at C
 have HB := Lib.hid hB
 have hsf := fun (a : Addr) (x : Nat) (m : Mode) (W : World) => (show (store a (.float .f64 x) m).run Tryz.prog W = stored Tryz.prog W a (.float .f64 x) m from run_store Tryz.prog W a _ m rfl)
 clear hw hs hR hB
 cases B
 ·have e1 : Hid (R = none) := Lib.hid (by rw [HR.out]; exact chk_whB HB.out.symm 2)
  go_enter Tryz.func57, Tryz.ntmps57
  go_wp2_with (go_at_call 101; refine (C.out _).mono ?_; rintro e w' ⟨⟨v, rfl, -⟩, rfl⟩)
  refine bodyPost_ret (v := .tuple #[.agg #[.int .u8 0, .float .f64 0, .float .f64 0, .float .f64 0, .float .f64 0, .int .i64 0, .string ⟨#[]⟩, .slice none 0 0, .slice none 0 0, .slice none 0 0], .bool false]) (by simp [results, Tryz.results57, go_sem]) rfl ?_
  rw [e1.out]
  exact ⟨⟨_, rfl, vz_mk sli0 sli0 sli0⟩, (Below.refl _ w).alloc (Nat.le_refl _) _⟩
 ·have e1 : Hid (R = chkF (bl x0) 2) := HR
  rcases (show 2 ≤ dval (bl x0) ∨ dval (bl x0) = 1 ∨ dval (bl x0) = 0 by omega) with hd | hd | hd
  ·have dI : (dval (bl x0) : Int) ≥ 1 := by omega
   have dJ : (dval (bl x0) : Int) ≥ 2 := by omega
   have DD := Lib.hid hd
   clear hd
   go_enter Tryz.func57, Tryz.ntmps57
   go_wp2_with (go_at_call 101; refine (C.out _).mono ?_; rintro e w' ⟨⟨v, rfl, hv⟩, rfl⟩; obtain rfl := hv rfl)
   refine bodyPost_ret (v := .tuple #[.agg #[.int .u8 115, .float .f64 0, .float .f64 0, .float .f64 0, .float .f64 0, .int .i64 (dval (bl x0) : Nat), .string ⟨#[106, 117, 109, 112, 45, 101, 110, 100]⟩, .slice none 0 0, .slice none 0 0, .slice none 0 0], .bool true]) (by simp [results, Tryz.results57, go_sem]) rfl ?_
   exact ref_steps (j := 2) e1.out HB.out.symm rfl (fun _ => rfl) (fin_t (by decide) (by have := DD.out; omega)) ((Below.refl _ w).alloc (Nat.le_refl _) _)
  ·have dI : (dval (bl x0) : Int) ≥ 1 := by omega
   have dJ : ¬ (dval (bl x0) : Int) ≥ 2 := by omega
   have DD := Lib.hid hd
   clear hd
   go_enter Tryz.func57, Tryz.ntmps57
   go_wp2_with (go_at_call 101; refine (C.out _).mono ?_; rintro e w' ⟨⟨v, rfl, hv⟩, rfl⟩; obtain rfl := hv rfl)
   refine bodyPost_ret (v := .tuple #[.agg #[.int .u8 115, .float .f64 0, .float .f64 0, .float .f64 0, .float .f64 0, .int .i64 (dval (bl x0) : Nat), .string ⟨#[106, 117, 109, 112, 45, 101, 110, 100]⟩, .slice none 0 0, .slice none 0 0, .slice none 0 0], .bool true]) (by simp [results, Tryz.results57, go_sem]) rfl ?_
   exact ref_steps (j := 2) e1.out HB.out.symm rfl (fun _ => rfl) (fin_t (by decide) (by have := DD.out; omega)) ((Below.refl _ w).alloc (Nat.le_refl _) _)
  ·have dI : ¬ (dval (bl x0) : Int) ≥ 1 := by omega
   have dJ : ¬ (dval (bl x0) : Int) ≥ 2 := by omega
   have DD := Lib.hid hd
   clear hd
   go_enter Tryz.func57, Tryz.ntmps57
   go_wp2_with (go_at_call 101; refine (C.out _).mono ?_; rintro e w' ⟨⟨v, rfl, hv⟩, rfl⟩; obtain rfl := hv rfl)
   refine bodyPost_ret (v := .tuple #[.agg #[.int .u8 115, .float .f64 0, .float .f64 0, .float .f64 0, .float .f64 0, .int .i64 (dval (bl x0) : Nat), .string ⟨#[106, 117, 109, 112, 45, 101, 110, 100]⟩, .slice none 0 0, .slice none 0 0, .slice none 0 0], .bool false]) (by simp [results, Tryz.results57, go_sem]) rfl ?_
   exact ref_steps (j := 2) e1.out HB.out.symm rfl (fun _ => rfl) (fin_f (.inr (by have := DD.out; omega))) ((Below.refl _ w).alloc (Nat.le_refl _) _)
set_option maxRecDepth 100000 in
set_option maxHeartbeats 4000000 in
theorem k57_2 (A : Nat) (x0 x1 : ByteArray) (c : Nat) (w : World) (hw : LS w A [x0, x1]) (hs : x0.size ≤ 2000) : Calls Tryz.prog 57 #[.slice (some ⟨A, 0, none⟩) 2 c] w fun e w' => RefR w (stepsF ([x0, x1].map bl)) e w' := by
 obtain ⟨R, hR⟩ : ∃ R, R = stepsF ([x0, x1].map bl) := ⟨_, rfl⟩
 rw [← hR]
 have HR := Lib.hid hR
 have k0 : ∀ o : Obj, (w.alloc o).cell? ⟨A, 0, none⟩ = some (.string x0) := fun o => (((Below.refl _ w).alloc (Nat.le_refl _) o).cell (p := ⟨A, 0, none⟩) hw.1).trans (hw.2 0 x0 rfl)
 have k1 : ∀ o : Obj, (w.alloc o).cell? ⟨A, 1, none⟩ = some (.string x1) := fun o => (((Below.refl _ w).alloc (Nat.le_refl _) o).cell (p := ⟨A, 1, none⟩) hw.1).trans (hw.2 1 x1 rfl)
 have C := Lib.hid (fun (w1 : World) => k101 x0 w1 hs)
 obtain ⟨B, hB⟩ : ∃ B, B = whB (bl x0) := ⟨_, rfl⟩
 rw [← hB] at C
 have HB := Lib.hid hB
 have hsf := fun (a : Addr) (x : Nat) (m : Mode) (W : World) => (show (store a (.float .f64 x) m).run Tryz.prog W = stored Tryz.prog W a (.float .f64 x) m from run_store Tryz.prog W a _ m rfl)
 clear hw hs hR hB
 cases B
 ·have e1 : Hid (R = none) := Lib.hid (by rw [HR.out]; exact chk_whB HB.out.symm _)
  go_enter Tryz.func57, Tryz.ntmps57
  go_wp2_with (go_at_call 101; refine (C.out _).mono ?_; rintro e w' ⟨⟨v, rfl, -⟩, rfl⟩)
  refine bodyPost_ret (v := .tuple #[.agg #[.int .u8 0, .float .f64 0, .float .f64 0, .float .f64 0, .float .f64 0, .int .i64 0, .string ⟨#[]⟩, .slice none 0 0, .slice none 0 0, .slice none 0 0], .bool false]) (by simp [results, Tryz.results57, go_sem]) rfl ?_
  rw [e1.out]
  exact ⟨⟨_, rfl, vz_mk sli0 sli0 sli0⟩, (Below.refl _ w).alloc (Nat.le_refl _) _⟩
 ·have e0 : Hid (R = chkF (bl x0) (jumpF (bl x1))) := HR
  have q0 : (x1.toList == [115, 116, 97, 114, 116]) = decide (bl x1 = aStart) := tl_eq x1 [115, 116, 97, 114, 116]
  have q1 : (x1.toList == [101, 110, 100]) = decide (bl x1 = aEnd) := tl_eq x1 [101, 110, 100]
  have q2 : (x1.toList == [106, 117, 109, 112, 45, 115, 116, 97, 114, 116]) = decide (bl x1 = aJStart) := tl_eq x1 [106, 117, 109, 112, 45, 115, 116, 97, 114, 116]
  have q3 : (x1.toList == [106, 117, 109, 112, 45, 101, 110, 100]) = decide (bl x1 = aJEnd) := tl_eq x1 [106, 117, 109, 112, 45, 101, 110, 100]
  have q4 : (x1.toList == [106, 117, 109, 112, 45, 98, 111, 116, 104]) = decide (bl x1 = aJBoth) := tl_eq x1 [106, 117, 109, 112, 45, 98, 111, 116, 104]
  have q5 : (x1.toList == [106, 117, 109, 112, 45, 110, 111, 110, 101]) = decide (bl x1 = aJNone) := tl_eq x1 [106, 117, 109, 112, 45, 110, 111, 110, 101]
  by_cases c0 : bl x1 = aStart
  ·have e1 : Hid (R = chkF (bl x0) 1) := Lib.hid (by rw [e0.out, c0]; rfl)
   have HX := Lib.hid c0
   rw [decide_eq_true c0] at q0
   rw [decide_eq_false (by rw [c0]; decide)] at q1
   rw [decide_eq_false (by rw [c0]; decide)] at q2
   rw [decide_eq_false (by rw [c0]; decide)] at q3
   rw [decide_eq_false (by rw [c0]; decide)] at q4
   rw [decide_eq_false (by rw [c0]; decide)] at q5
   clear c0
   rcases (show 2 ≤ dval (bl x0) ∨ dval (bl x0) = 1 ∨ dval (bl x0) = 0 by omega) with hd | hd | hd
   ·have dI : (dval (bl x0) : Int) ≥ 1 := by omega
    have dJ : (dval (bl x0) : Int) ≥ 2 := by omega
    have DD := Lib.hid hd
    clear hd
    go_enter Tryz.func57, Tryz.ntmps57
    go_wp2_with (go_at_call 101; refine (C.out _).mono ?_; rintro e w' ⟨⟨v, rfl, hv⟩, rfl⟩; obtain rfl := hv rfl)
    refine bodyPost_ret (v := .tuple #[.agg #[.int .u8 115, .float .f64 0, .float .f64 0, .float .f64 0, .float .f64 0, .int .i64 (dval (bl x0) : Nat), .string ⟨#[106, 117, 109, 112, 45, 115, 116, 97, 114, 116]⟩, .slice none 0 0, .slice none 0 0, .slice none 0 0], .bool true]) (by simp [results, Tryz.results57, go_sem]) rfl ?_
    exact ref_steps (j := 1) e1.out HB.out.symm rfl (fun _ => rfl) (fin_t (by decide) (by have := DD.out; omega)) ((Below.refl _ w).alloc (Nat.le_refl _) _)
   ·have dI : (dval (bl x0) : Int) ≥ 1 := by omega
    have dJ : ¬ (dval (bl x0) : Int) ≥ 2 := by omega
    have DD := Lib.hid hd
    clear hd
    go_enter Tryz.func57, Tryz.ntmps57
    go_wp2_with (go_at_call 101; refine (C.out _).mono ?_; rintro e w' ⟨⟨v, rfl, hv⟩, rfl⟩; obtain rfl := hv rfl)
    refine bodyPost_ret (v := .tuple #[.agg #[.int .u8 115, .float .f64 0, .float .f64 0, .float .f64 0, .float .f64 0, .int .i64 (dval (bl x0) : Nat), .string ⟨#[106, 117, 109, 112, 45, 115, 116, 97, 114, 116]⟩, .slice none 0 0, .slice none 0 0, .slice none 0 0], .bool true]) (by simp [results, Tryz.results57, go_sem]) rfl ?_
    exact ref_steps (j := 1) e1.out HB.out.symm rfl (fun _ => rfl) (fin_t (by decide) (by have := DD.out; omega)) ((Below.refl _ w).alloc (Nat.le_refl _) _)
   ·have dI : ¬ (dval (bl x0) : Int) ≥ 1 := by omega
    have dJ : ¬ (dval (bl x0) : Int) ≥ 2 := by omega
    have DD := Lib.hid hd
    clear hd
    go_enter Tryz.func57, Tryz.ntmps57
    go_wp2_with (go_at_call 101; refine (C.out _).mono ?_; rintro e w' ⟨⟨v, rfl, hv⟩, rfl⟩; obtain rfl := hv rfl)
    refine bodyPost_ret (v := .tuple #[.agg #[.int .u8 115, .float .f64 0, .float .f64 0, .float .f64 0, .float .f64 0, .int .i64 (dval (bl x0) : Nat), .string ⟨#[106, 117, 109, 112, 45, 115, 116, 97, 114, 116]⟩, .slice none 0 0, .slice none 0 0, .slice none 0 0], .bool false]) (by simp [results, Tryz.results57, go_sem]) rfl ?_
    exact ref_steps (j := 1) e1.out HB.out.symm rfl (fun _ => rfl) (fin_f (.inr (by have := DD.out; omega))) ((Below.refl _ w).alloc (Nat.le_refl _) _)
  rw [decide_eq_false c0] at q0
  by_cases c1 : bl x1 = aEnd
  ·have e1 : Hid (R = chkF (bl x0) 2) := Lib.hid (by rw [e0.out, c1]; rfl)
   have HX := Lib.hid c1
   rw [decide_eq_true c1] at q1
   rw [decide_eq_false (by rw [c1]; decide)] at q2
   rw [decide_eq_false (by rw [c1]; decide)] at q3
   rw [decide_eq_false (by rw [c1]; decide)] at q4
   rw [decide_eq_false (by rw [c1]; decide)] at q5
   clear c1
   rcases (show 2 ≤ dval (bl x0) ∨ dval (bl x0) = 1 ∨ dval (bl x0) = 0 by omega) with hd | hd | hd
   ·have dI : (dval (bl x0) : Int) ≥ 1 := by omega
    have dJ : (dval (bl x0) : Int) ≥ 2 := by omega
    have DD := Lib.hid hd
    clear hd
    go_enter Tryz.func57, Tryz.ntmps57
    go_wp2_with (go_at_call 101; refine (C.out _).mono ?_; rintro e w' ⟨⟨v, rfl, hv⟩, rfl⟩; obtain rfl := hv rfl)
    refine bodyPost_ret (v := .tuple #[.agg #[.int .u8 115, .float .f64 0, .float .f64 0, .float .f64 0, .float .f64 0, .int .i64 (dval (bl x0) : Nat), .string ⟨#[106, 117, 109, 112, 45, 101, 110, 100]⟩, .slice none 0 0, .slice none 0 0, .slice none 0 0], .bool true]) (by simp [results, Tryz.results57, go_sem]) rfl ?_
    exact ref_steps (j := 2) e1.out HB.out.symm rfl (fun _ => rfl) (fin_t (by decide) (by have := DD.out; omega)) ((Below.refl _ w).alloc (Nat.le_refl _) _)
   ·have dI : (dval (bl x0) : Int) ≥ 1 := by omega
    have dJ : ¬ (dval (bl x0) : Int) ≥ 2 := by omega
    have DD := Lib.hid hd
    clear hd
    go_enter Tryz.func57, Tryz.ntmps57
    go_wp2_with (go_at_call 101; refine (C.out _).mono ?_; rintro e w' ⟨⟨v, rfl, hv⟩, rfl⟩; obtain rfl := hv rfl)
    refine bodyPost_ret (v := .tuple #[.agg #[.int .u8 115, .float .f64 0, .float .f64 0, .float .f64 0, .float .f64 0, .int .i64 (dval (bl x0) : Nat), .string ⟨#[106, 117, 109, 112, 45, 101, 110, 100]⟩, .slice none 0 0, .slice none 0 0, .slice none 0 0], .bool true]) (by simp [results, Tryz.results57, go_sem]) rfl ?_
    exact ref_steps (j := 2) e1.out HB.out.symm rfl (fun _ => rfl) (fin_t (by decide) (by have := DD.out; omega)) ((Below.refl _ w).alloc (Nat.le_refl _) _)
   ·have dI : ¬ (dval (bl x0) : Int) ≥ 1 := by omega
    have dJ : ¬ (dval (bl x0) : Int) ≥ 2 := by omega
    have DD := Lib.hid hd
    clear hd
    go_enter Tryz.func57, Tryz.ntmps57
    go_wp2_with (go_at_call 101; refine (C.out _).mono ?_; rintro e w' ⟨⟨v, rfl, hv⟩, rfl⟩; obtain rfl := hv rfl)
    refine bodyPost_ret (v := .tuple #[.agg #[.int .u8 115, .float .f64 0, .float .f64 0, .float .f64 0, .float .f64 0, .int .i64 (dval (bl x0) : Nat), .string ⟨#[106, 117, 109, 112, 45, 101, 110, 100]⟩, .slice none 0 0, .slice none 0 0, .slice none 0 0], .bool false]) (by simp [results, Tryz.results57, go_sem]) rfl ?_
    exact ref_steps (j := 2) e1.out HB.out.symm rfl (fun _ => rfl) (fin_f (.inr (by have := DD.out; omega))) ((Below.refl _ w).alloc (Nat.le_refl _) _)
  rw [decide_eq_false c1] at q1
  by_cases c2 : bl x1 = aJStart
  ·have e1 : Hid (R = chkF (bl x0) 1) := Lib.hid (by rw [e0.out, c2]; rfl)
   have HX := Lib.hid c2
   rw [decide_eq_true c2] at q2
   rw [decide_eq_false (by rw [c2]; decide)] at q3
   rw [decide_eq_false (by rw [c2]; decide)] at q4
   rw [decide_eq_false (by rw [c2]; decide)] at q5
   clear c2
   rcases (show 2 ≤ dval (bl x0) ∨ dval (bl x0) = 1 ∨ dval (bl x0) = 0 by omega) with hd | hd | hd
   ·have dI : (dval (bl x0) : Int) ≥ 1 := by omega
    have dJ : (dval (bl x0) : Int) ≥ 2 := by omega
    have DD := Lib.hid hd
    clear hd
    go_enter Tryz.func57, Tryz.ntmps57
    go_wp2_with (go_at_call 101; refine (C.out _).mono ?_; rintro e w' ⟨⟨v, rfl, hv⟩, rfl⟩; obtain rfl := hv rfl)
    refine bodyPost_ret (v := .tuple #[.agg #[.int .u8 115, .float .f64 0, .float .f64 0, .float .f64 0, .float .f64 0, .int .i64 (dval (bl x0) : Nat), .string x1, .slice none 0 0, .slice none 0 0, .slice none 0 0], .bool true]) (by simp [results, Tryz.results57, go_sem]) rfl ?_
    exact ref_steps (j := 1) e1.out HB.out.symm rfl (fun _ => HX.out) (fin_t (by decide) (by have := DD.out; omega)) ((Below.refl _ w).alloc (Nat.le_refl _) _)
   ·have dI : (dval (bl x0) : Int) ≥ 1 := by omega
    have dJ : ¬ (dval (bl x0) : Int) ≥ 2 := by omega
    have DD := Lib.hid hd
    clear hd
    go_enter Tryz.func57, Tryz.ntmps57
    go_wp2_with (go_at_call 101; refine (C.out _).mono ?_; rintro e w' ⟨⟨v, rfl, hv⟩, rfl⟩; obtain rfl := hv rfl)
    refine bodyPost_ret (v := .tuple #[.agg #[.int .u8 115, .float .f64 0, .float .f64 0, .float .f64 0, .float .f64 0, .int .i64 (dval (bl x0) : Nat), .string x1, .slice none 0 0, .slice none 0 0, .slice none 0 0], .bool true]) (by simp [results, Tryz.results57, go_sem]) rfl ?_
    exact ref_steps (j := 1) e1.out HB.out.symm rfl (fun _ => HX.out) (fin_t (by decide) (by have := DD.out; omega)) ((Below.refl _ w).alloc (Nat.le_refl _) _)
   ·have dI : ¬ (dval (bl x0) : Int) ≥ 1 := by omega
    have dJ : ¬ (dval (bl x0) : Int) ≥ 2 := by omega
    have DD := Lib.hid hd
    clear hd
    go_enter Tryz.func57, Tryz.ntmps57
    go_wp2_with (go_at_call 101; refine (C.out _).mono ?_; rintro e w' ⟨⟨v, rfl, hv⟩, rfl⟩; obtain rfl := hv rfl)
    refine bodyPost_ret (v := .tuple #[.agg #[.int .u8 115, .float .f64 0, .float .f64 0, .float .f64 0, .float .f64 0, .int .i64 (dval (bl x0) : Nat), .string x1, .slice none 0 0, .slice none 0 0, .slice none 0 0], .bool false]) (by simp [results, Tryz.results57, go_sem]) rfl ?_
    exact ref_steps (j := 1) e1.out HB.out.symm rfl (fun _ => HX.out) (fin_f (.inr (by have := DD.out; omega))) ((Below.refl _ w).alloc (Nat.le_refl _) _)
  rw [decide_eq_false c2] at q2
  by_cases c3 : bl x1 = aJEnd
  ·have e1 : Hid (R = chkF (bl x0) 2) := Lib.hid (by rw [e0.out, c3]; rfl)
   have HX := Lib.hid c3
   rw [decide_eq_true c3] at q3
   rw [decide_eq_false (by rw [c3]; decide)] at q4
   rw [decide_eq_false (by rw [c3]; decide)] at q5
   clear c3
   rcases (show 2 ≤ dval (bl x0) ∨ dval (bl x0) = 1 ∨ dval (bl x0) = 0 by omega) with hd | hd | hd
   ·have dI : (dval (bl x0) : Int) ≥ 1 := by omega
    have dJ : (dval (bl x0) : Int) ≥ 2 := by omega
    have DD := Lib.hid hd
    clear hd
    go_enter Tryz.func57, Tryz.ntmps57
    go_wp2_with (go_at_call 101; refine (C.out _).mono ?_; rintro e w' ⟨⟨v, rfl, hv⟩, rfl⟩; obtain rfl := hv rfl)
    refine bodyPost_ret (v := .tuple #[.agg #[.int .u8 115, .float .f64 0, .float .f64 0, .float .f64 0, .float .f64 0, .int .i64 (dval (bl x0) : Nat), .string x1, .slice none 0 0, .slice none 0 0, .slice none 0 0], .bool true]) (by simp [results, Tryz.results57, go_sem]) rfl ?_
    exact ref_steps (j := 2) e1.out HB.out.symm rfl (fun _ => HX.out) (fin_t (by decide) (by have := DD.out; omega)) ((Below.refl _ w).alloc (Nat.le_refl _) _)
   ·have dI : (dval (bl x0) : Int) ≥ 1 := by omega
    have dJ : ¬ (dval (bl x0) : Int) ≥ 2 := by omega
    have DD := Lib.hid hd
    clear hd
    go_enter Tryz.func57, Tryz.ntmps57
    go_wp2_with (go_at_call 101; refine (C.out _).mono ?_; rintro e w' ⟨⟨v, rfl, hv⟩, rfl⟩; obtain rfl := hv rfl)
    refine bodyPost_ret (v := .tuple #[.agg #[.int .u8 115, .float .f64 0, .float .f64 0, .float .f64 0, .float .f64 0, .int .i64 (dval (bl x0) : Nat), .string x1, .slice none 0 0, .slice none 0 0, .slice none 0 0], .bool true]) (by simp [results, Tryz.results57, go_sem]) rfl ?_
    exact ref_steps (j := 2) e1.out HB.out.symm rfl (fun _ => HX.out) (fin_t (by decide) (by have := DD.out; omega)) ((Below.refl _ w).alloc (Nat.le_refl _) _)
   ·have dI : ¬ (dval (bl x0) : Int) ≥ 1 := by omega
    have dJ : ¬ (dval (bl x0) : Int) ≥ 2 := by omega
    have DD := Lib.hid hd
    clear hd
    go_enter Tryz.func57, Tryz.ntmps57
    go_wp2_with (go_at_call 101; refine (C.out _).mono ?_; rintro e w' ⟨⟨v, rfl, hv⟩, rfl⟩; obtain rfl := hv rfl)
    refine bodyPost_ret (v := .tuple #[.agg #[.int .u8 115, .float .f64 0, .float .f64 0, .float .f64 0, .float .f64 0, .int .i64 (dval (bl x0) : Nat), .string x1, .slice none 0 0, .slice none 0 0, .slice none 0 0], .bool false]) (by simp [results, Tryz.results57, go_sem]) rfl ?_
    exact ref_steps (j := 2) e1.out HB.out.symm rfl (fun _ => HX.out) (fin_f (.inr (by have := DD.out; omega))) ((Below.refl _ w).alloc (Nat.le_refl _) _)
  rw [decide_eq_false c3] at q3
  by_cases c4 : bl x1 = aJBoth
  ·have e1 : Hid (R = chkF (bl x0) 4) := Lib.hid (by rw [e0.out, c4]; rfl)
   have HX := Lib.hid c4
   rw [decide_eq_true c4] at q4
   rw [decide_eq_false (by rw [c4]; decide)] at q5
   clear c4
   rcases (show 2 ≤ dval (bl x0) ∨ dval (bl x0) = 1 ∨ dval (bl x0) = 0 by omega) with hd | hd | hd
   ·have dI : (dval (bl x0) : Int) ≥ 1 := by omega
    have dJ : (dval (bl x0) : Int) ≥ 2 := by omega
    have DD := Lib.hid hd
    clear hd
    go_enter Tryz.func57, Tryz.ntmps57
    go_wp2_with (go_at_call 101; refine (C.out _).mono ?_; rintro e w' ⟨⟨v, rfl, hv⟩, rfl⟩; obtain rfl := hv rfl)
    refine bodyPost_ret (v := .tuple #[.agg #[.int .u8 115, .float .f64 0, .float .f64 0, .float .f64 0, .float .f64 0, .int .i64 (dval (bl x0) : Nat), .string x1, .slice none 0 0, .slice none 0 0, .slice none 0 0], .bool true]) (by simp [results, Tryz.results57, go_sem]) rfl ?_
    exact ref_steps (j := 4) e1.out HB.out.symm rfl (fun _ => HX.out) (fin_t (by decide) (by have := DD.out; omega)) ((Below.refl _ w).alloc (Nat.le_refl _) _)
   ·have dI : (dval (bl x0) : Int) ≥ 1 := by omega
    have dJ : ¬ (dval (bl x0) : Int) ≥ 2 := by omega
    have DD := Lib.hid hd
    clear hd
    go_enter Tryz.func57, Tryz.ntmps57
    go_wp2_with (go_at_call 101; refine (C.out _).mono ?_; rintro e w' ⟨⟨v, rfl, hv⟩, rfl⟩; obtain rfl := hv rfl)
    refine bodyPost_ret (v := .tuple #[.agg #[.int .u8 115, .float .f64 0, .float .f64 0, .float .f64 0, .float .f64 0, .int .i64 (dval (bl x0) : Nat), .string x1, .slice none 0 0, .slice none 0 0, .slice none 0 0], .bool true]) (by simp [results, Tryz.results57, go_sem]) rfl ?_
    exact ref_steps (j := 4) e1.out HB.out.symm rfl (fun _ => HX.out) (fin_t (by decide) (by have := DD.out; omega)) ((Below.refl _ w).alloc (Nat.le_refl _) _)
   ·have dI : ¬ (dval (bl x0) : Int) ≥ 1 := by omega
    have dJ : ¬ (dval (bl x0) : Int) ≥ 2 := by omega
    have DD := Lib.hid hd
    clear hd
    go_enter Tryz.func57, Tryz.ntmps57
    go_wp2_with (go_at_call 101; refine (C.out _).mono ?_; rintro e w' ⟨⟨v, rfl, hv⟩, rfl⟩; obtain rfl := hv rfl)
    refine bodyPost_ret (v := .tuple #[.agg #[.int .u8 115, .float .f64 0, .float .f64 0, .float .f64 0, .float .f64 0, .int .i64 (dval (bl x0) : Nat), .string x1, .slice none 0 0, .slice none 0 0, .slice none 0 0], .bool false]) (by simp [results, Tryz.results57, go_sem]) rfl ?_
    exact ref_steps (j := 4) e1.out HB.out.symm rfl (fun _ => HX.out) (fin_f (.inr (by have := DD.out; omega))) ((Below.refl _ w).alloc (Nat.le_refl _) _)
  rw [decide_eq_false c4] at q4
  by_cases c5 : bl x1 = aJNone
  ·have e1 : Hid (R = chkF (bl x0) 3) := Lib.hid (by rw [e0.out, c5]; rfl)
   have HX := Lib.hid c5
   rw [decide_eq_true c5] at q5
   clear c5
   rcases (show 2 ≤ dval (bl x0) ∨ dval (bl x0) = 1 ∨ dval (bl x0) = 0 by omega) with hd | hd | hd
   ·have dI : (dval (bl x0) : Int) ≥ 1 := by omega
    have dJ : (dval (bl x0) : Int) ≥ 2 := by omega
    have DD := Lib.hid hd
    clear hd
    go_enter Tryz.func57, Tryz.ntmps57
    go_wp2_with (go_at_call 101; refine (C.out _).mono ?_; rintro e w' ⟨⟨v, rfl, hv⟩, rfl⟩; obtain rfl := hv rfl)
    refine bodyPost_ret (v := .tuple #[.agg #[.int .u8 115, .float .f64 0, .float .f64 0, .float .f64 0, .float .f64 0, .int .i64 (dval (bl x0) : Nat), .string x1, .slice none 0 0, .slice none 0 0, .slice none 0 0], .bool true]) (by simp [results, Tryz.results57, go_sem]) rfl ?_
    exact ref_steps (j := 3) e1.out HB.out.symm rfl (fun _ => HX.out) (fin_t (by decide) (by have := DD.out; omega)) ((Below.refl _ w).alloc (Nat.le_refl _) _)
   ·have dI : (dval (bl x0) : Int) ≥ 1 := by omega
    have dJ : ¬ (dval (bl x0) : Int) ≥ 2 := by omega
    have DD := Lib.hid hd
    clear hd
    go_enter Tryz.func57, Tryz.ntmps57
    go_wp2_with (go_at_call 101; refine (C.out _).mono ?_; rintro e w' ⟨⟨v, rfl, hv⟩, rfl⟩; obtain rfl := hv rfl)
    refine bodyPost_ret (v := .tuple #[.agg #[.int .u8 115, .float .f64 0, .float .f64 0, .float .f64 0, .float .f64 0, .int .i64 (dval (bl x0) : Nat), .string x1, .slice none 0 0, .slice none 0 0, .slice none 0 0], .bool false]) (by simp [results, Tryz.results57, go_sem]) rfl ?_
    exact ref_steps (j := 3) e1.out HB.out.symm rfl (fun _ => HX.out) (fin_f (.inr (by have := DD.out; omega))) ((Below.refl _ w).alloc (Nat.le_refl _) _)
   ·have dI : ¬ (dval (bl x0) : Int) ≥ 1 := by omega
    have dJ : ¬ (dval (bl x0) : Int) ≥ 2 := by omega
    have DD := Lib.hid hd
    clear hd
    go_enter Tryz.func57, Tryz.ntmps57
    go_wp2_with (go_at_call 101; refine (C.out _).mono ?_; rintro e w' ⟨⟨v, rfl, hv⟩, rfl⟩; obtain rfl := hv rfl)
    refine bodyPost_ret (v := .tuple #[.agg #[.int .u8 115, .float .f64 0, .float .f64 0, .float .f64 0, .float .f64 0, .int .i64 (dval (bl x0) : Nat), .string x1, .slice none 0 0, .slice none 0 0, .slice none 0 0], .bool false]) (by simp [results, Tryz.results57, go_sem]) rfl ?_
    exact ref_steps (j := 3) e1.out HB.out.symm rfl (fun _ => HX.out) (fin_f (.inr (by have := DD.out; omega))) ((Below.refl _ w).alloc (Nat.le_refl _) _)
  rw [decide_eq_false c5] at q5
  have e1 : Hid (R = chkF (bl x0) 0) := Lib.hid (by rw [e0.out]; unfold jumpF; rw [if_neg (by rintro (h | h) <;> contradiction), if_neg (by rintro (h | h) <;> contradiction), if_neg (by assumption), if_neg (by assumption)])
  clear c0 c1 c2 c3 c4 c5
  rcases (show 2 ≤ dval (bl x0) ∨ dval (bl x0) = 1 ∨ dval (bl x0) = 0 by omega) with hd | hd | hd
  ·have dI : (dval (bl x0) : Int) ≥ 1 := by omega
   have dJ : (dval (bl x0) : Int) ≥ 2 := by omega
   have DD := Lib.hid hd
   clear hd
   go_enter Tryz.func57, Tryz.ntmps57
   go_wp2_with (go_at_call 101; refine (C.out _).mono ?_; rintro e w' ⟨⟨v, rfl, hv⟩, rfl⟩; obtain rfl := hv rfl)
   refine bodyPost_ret (v := .tuple #[.agg #[.int .u8 115, .float .f64 0, .float .f64 0, .float .f64 0, .float .f64 0, .int .i64 (dval (bl x0) : Nat), .string x1, .slice none 0 0, .slice none 0 0, .slice none 0 0], .bool false]) (by simp [results, Tryz.results57, go_sem]) rfl ?_
   exact ref_steps (j := 0) e1.out HB.out.symm rfl (fun h => absurd rfl h) (fin_f (.inl rfl)) ((Below.refl _ w).alloc (Nat.le_refl _) _)
  ·have dI : (dval (bl x0) : Int) ≥ 1 := by omega
   have dJ : ¬ (dval (bl x0) : Int) ≥ 2 := by omega
   have DD := Lib.hid hd
   clear hd
   go_enter Tryz.func57, Tryz.ntmps57
   go_wp2_with (go_at_call 101; refine (C.out _).mono ?_; rintro e w' ⟨⟨v, rfl, hv⟩, rfl⟩; obtain rfl := hv rfl)
   refine bodyPost_ret (v := .tuple #[.agg #[.int .u8 115, .float .f64 0, .float .f64 0, .float .f64 0, .float .f64 0, .int .i64 (dval (bl x0) : Nat), .string x1, .slice none 0 0, .slice none 0 0, .slice none 0 0], .bool false]) (by simp [results, Tryz.results57, go_sem]) rfl ?_
   exact ref_steps (j := 0) e1.out HB.out.symm rfl (fun h => absurd rfl h) (fin_f (.inl rfl)) ((Below.refl _ w).alloc (Nat.le_refl _) _)
  ·have dI : ¬ (dval (bl x0) : Int) ≥ 1 := by omega
   have dJ : ¬ (dval (bl x0) : Int) ≥ 2 := by omega
   have DD := Lib.hid hd
   clear hd
   go_enter Tryz.func57, Tryz.ntmps57
   go_wp2_with (go_at_call 101; refine (C.out _).mono ?_; rintro e w' ⟨⟨v, rfl, hv⟩, rfl⟩; obtain rfl := hv rfl)
   refine bodyPost_ret (v := .tuple #[.agg #[.int .u8 115, .float .f64 0, .float .f64 0, .float .f64 0, .float .f64 0, .int .i64 (dval (bl x0) : Nat), .string x1, .slice none 0 0, .slice none 0 0, .slice none 0 0], .bool false]) (by simp [results, Tryz.results57, go_sem]) rfl ?_
   exact ref_steps (j := 0) e1.out HB.out.symm rfl (fun h => absurd rfl h) (fin_f (.inl rfl)) ((Below.refl _ w).alloc (Nat.le_refl _) _)
set_option maxRecDepth 100000 in
set_option maxHeartbeats 4000000 in
theorem k57_3 (A : Nat) (x0 : ByteArray) (n c : Nat) (w : World) (k0 : ∀ o : Obj, (w.alloc o).cell? ⟨A, 0, none⟩ = some (.string x0)) (hs : x0.size ≤ 2000) (hn : 3 ≤ n) : Calls Tryz.prog 57 #[.slice (some ⟨A, 0, none⟩) n c] w fun e w' => RefR w none e w' := by
 have C := Lib.hid (fun (w1 : World) => k101 x0 w1 hs)
 obtain ⟨B, hB⟩ : ∃ B, B = whB (bl x0) := ⟨_, rfl⟩
 rw [← hB] at C
 have hsf := fun (a : Addr) (x : Nat) (m : Mode) (W : World) => (show (store a (.float .f64 x) m).run Tryz.prog W = stored Tryz.prog W a (.float .f64 x) m from run_store Tryz.prog W a _ m rfl)
 have n1 : (n : Int) > 2 := by omega
 have n0 : (0 : Int) < (n : Int) := by omega
 clear hs hB hn
 cases B
 all_goals
  go_enter Tryz.func57, Tryz.ntmps57
  go_wp2_with (go_at_call 101; refine (C.out _).mono ?_; rintro e w' ⟨⟨v, rfl, -⟩, rfl⟩)
  refine bodyPost_ret (v := .tuple #[.agg #[.int .u8 0, .float .f64 0, .float .f64 0, .float .f64 0, .float .f64 0, .int .i64 0, .string ⟨#[]⟩, .slice none 0 0, .slice none 0 0, .slice none 0 0], .bool false]) (by simp [results, Tryz.results57, go_sem]) rfl ?_
  exact ⟨⟨_, rfl, vz_mk sli0 sli0 sli0⟩, (Below.refl _ w).alloc (Nat.le_refl _) _⟩
theorem k57 (A : Nat) (x0 : ByteArray) (xs : List ByteArray) (c : Nat) (w : World) (hw : LS w A (x0 :: xs)) (hs : ∀ x ∈ x0 :: xs, x.size ≤ 2000) : Calls Tryz.prog 57 #[.slice (some ⟨A, 0, none⟩) (xs.length + 1 : Nat) c] w fun e w' => RefR w (stepsF ((x0 :: xs).map bl)) e w' := by
 have h0 := hs x0 (List.mem_cons_self ..)
 match xs, hw with
 | [], hw => exact k57_1 A x0 c w hw h0
 | [x1], hw => exact k57_2 A x0 x1 c w hw h0
 | x1 :: x2 :: r, hw => exact k57_3 A x0 _ c w (fun o => (((Below.refl _ w).alloc (Nat.le_refl _) o).cell (p := ⟨A, 0, none⟩) hw.1).trans (hw.2 0 x0 rfl)) h0 (by simp)
end Go.Proofs.YtlgencbldbpbdaaGreatDoor
namespace Go.Proofs.YtlgencbldbpbdaaGreatDoor
open Go.RowKit Fl
def Z10 : Array Value := #[.int .u8 0, .float .f64 0, .float .f64 0, .float .f64 0, .float .f64 0, .int .i64 0, .string ⟨#[]⟩, .slice none 0 0, .slice none 0 0, .slice none 0 0]
def BK (w : World) (g : Nat) (cs : Array Value) (t : TypeId) : Prop := w.heap[g]? = some (.cells cs t (0, 0))
theorem BK.cell {w : World} {g : Nat} {cs : Array Value} {t : TypeId} (h : BK w g cs t) (j : Nat) : w.cell? ⟨g, j, none⟩ = cs[j]? := by
 unfold BK at h
 simp [World.cell?, h]
theorem BK.frozen {w : World} {g : Nat} {cs : Array Value} {t : TypeId} (h : BK w g cs t) (j : Nat) : w.frozen? ⟨g, j, none⟩ = false := by
 unfold BK at h
 simp [World.frozen?, h]
theorem BK.lt {w : World} {g : Nat} {cs : Array Value} {t : TypeId} (h : BK w g cs t) : g < w.heap.size := (Array.getElem?_eq_some_iff.1 h).1
theorem BK.below {w w' : World} {g : Nat} {cs : Array Value} {t : TypeId} (h : BK w g cs t) (hb : Below w.heap.size w w') : BK w' g cs t := (hb.block g h.lt).trans h
theorem BK.set {w : World} {g : Nat} {cs : Array Value} {t : TypeId} (h : BK w g cs t) (j : Nat) (v : Value) : BK (w.setCell ⟨g, j, none⟩ v) g (cs.setIfInBounds j v) t := by
 unfold BK at h ⊢
 unfold World.setCell
 simp [Array.getElem?_modify, h]
theorem BK.other {w : World} {g b : Nat} {cs : Array Value} {t : TypeId} (h : BK w g cs t) (hne : g ≠ b) (j : Nat) (v : Value) : BK (w.setCell ⟨b, j, none⟩ v) g cs t := (Below.heap_setCell _ _ _ g hne).trans h
theorem set10 {w : World} {g : Nat} {a0 a1 a2 a3 a4 a5 a6 a7 a8 a9 : Value} (h : BK w g #[a0, a1, a2, a3, a4, a5, a6, a7, a8, a9] 43) (v0 v1 v2 v3 v4 v5 v6 v7 v8 v9 : Value) :
  BK ((((((((((w.setCell ⟨g, 0, none⟩ v0).setCell ⟨g, 1, none⟩ v1).setCell ⟨g, 2, none⟩ v2).setCell ⟨g, 3, none⟩ v3).setCell ⟨g, 4, none⟩ v4).setCell ⟨g, 5, none⟩ v5).setCell ⟨g, 6, none⟩ v6).setCell ⟨g, 7, none⟩ v7).setCell ⟨g, 8, none⟩ v8).setCell ⟨g, 9, none⟩ v9) g #[v0, v1, v2, v3, v4, v5, v6, v7, v8, v9] 43 ∧ ∀ (B : Nat) (w0 : World), B ≤ g → Below B w0 w → Below B w0 ((((((((((w.setCell ⟨g, 0, none⟩ v0).setCell ⟨g, 1, none⟩ v1).setCell ⟨g, 2, none⟩ v2).setCell ⟨g, 3, none⟩ v3).setCell ⟨g, 4, none⟩ v4).setCell ⟨g, 5, none⟩ v5).setCell ⟨g, 6, none⟩ v6).setCell ⟨g, 7, none⟩ v7).setCell ⟨g, 8, none⟩ v8).setCell ⟨g, 9, none⟩ v9) := by
 refine ⟨?_, fun B w0 hB hb => ?_⟩
 ·have := (((((((((h.set 0 v0).set 1 v1).set 2 v2).set 3 v3).set 4 v4).set 5 v5).set 6 v6).set 7 v7).set 8 v8).set 9 v9
  simpa [List.setIfInBounds_toArray] using this
 ·exact (((((((((hb.setCell (p := ⟨g, 0, none⟩) hB v0).setCell (p := ⟨g, 1, none⟩) hB v1).setCell (p := ⟨g, 2, none⟩) hB v2).setCell (p := ⟨g, 3, none⟩) hB v3).setCell (p := ⟨g, 4, none⟩) hB v4).setCell (p := ⟨g, 5, none⟩) hB v5).setCell (p := ⟨g, 6, none⟩) hB v6).setCell (p := ⟨g, 7, none⟩) hB v7).setCell (p := ⟨g, 8, none⟩) hB v8).setCell (p := ⟨g, 9, none⟩) hB v9
theorem res56 {wf : World} {a : Act} {g : Nat} {b : Bool} {v0 v1 v2 v3 v4 v5 v6 v7 v8 v9 : Value} {Q : Ending → World → Prop} (h2 : a.tmps[2]? = some (.pointer (some ⟨g, 0, none⟩))) (h3 : a.tmps[3]? = some (.bool b)) (hd : a.defers = []) (hk : BK wf g #[v0, v1, v2, v3, v4, v5, v6, v7, v8, v9] 43) (hQ : Q (.returned (.tuple #[.agg #[v0, v1, v2, v3, v4, v5, v6, v7, v8, v9], .bool b])) wf) : bodyPost Tryz.prog Tryz.f56 Q Exit.ret a wf := by
 have z0 := hk.cell 0; have z1 := hk.cell 1; have z2 := hk.cell 2; have z3 := hk.cell 3; have z4 := hk.cell 4; have z5 := hk.cell 5; have z6 := hk.cell 6; have z7 := hk.cell 7; have z8 := hk.cell 8; have z9 := hk.cell 9
 exact bodyPost_ret (v := .tuple #[.agg #[v0, v1, v2, v3, v4, v5, v6, v7, v8, v9], .bool b]) (by simp [results, Tryz.results56, go_sem, h2, h3, z0, z1, z2, z3, z4, z5, z6, z7, z8, z9]) hd hQ
def F4 (f : Nat → Nat) : Array Value := #[.float .f64 (f 0), .float .f64 (f 1), .float .f64 (f 2), .float .f64 (f 3)]
theorem F4_get (f : Nat → Nat) {k : Nat} (h : k < 4) : (F4 f)[k]? = some (.float .f64 (f k)) := by
 have : k = 0 ∨ k = 1 ∨ k = 2 ∨ k = 3 := by omega
 rcases this with rfl | rfl | rfl | rfl <;> rfl
theorem F4_set (f : Nat → Nat) {k : Nat} (h : k < 4) (q : Nat) : (F4 f).setIfInBounds k (.float .f64 q) = F4 (fun i => if i = k then q else f i) := by
 have : k = 0 ∨ k = 1 ∨ k = 2 ∨ k = 3 := by omega
 rcases this with rfl | rfl | rfl | rfl <;> rfl
theorem inU_eq {a : Nat} (h : FW a) : inU (pl a) = (fleP 0 (pl a) && fleP (pl a) (iP 1)) := by
 have hn : isN a = false := by
  unfold isN
  have := h.2
  simp; omega
 have hp : pl a ≠ 9223372036854775807 := fun e => by
  have := isN_iff_pl a
  rw [hn, e] at this
  revert this; decide
 have h1 : ∀ p q : Int, p ≠ 9223372036854775807 → q ≠ 9223372036854775807 → fleP p q = !fltP q p := fun p q a b => by
  unfold fleP fltP
  simp only [ne_eq, a, b, not_false_iff, decide_true, Bool.true_and]
  by_cases c : zk p ≤ zk q
  ·rw [decide_eq_true c, decide_eq_false (by omega)]; rfl
  ·rw [decide_eq_false c, decide_eq_true (by omega)]; rfl
 have h2 : iP 1 ≠ 9223372036854775807 := by decide +kernel
 unfold inU
 rw [h1 0 (pl a) (by decide) hp, h1 (pl a) (iP 1) hp h2]
 cases fltP (pl a) 0 <;> cases fltP (iP 1) (pl a) <;> rfl
set_option maxRecDepth 100000 in
set_option maxHeartbeats 4000000 in
theorem k56 (A : Nat) (xs : List ByteArray) (c : Nat) (w : World) (hw : LS w A xs) (hs : ∀ x ∈ xs, x.size ≤ 2000) (hl : xs.length ≤ 100000) : Calls Tryz.prog 56 #[.slice (some ⟨A, 0, none⟩) xs.length c] w fun e w' => RefR w (curveF (xs.map bl)) e w' := by
 obtain ⟨R, hR⟩ : ∃ R, R = curveF (xs.map bl) := ⟨_, rfl⟩
 rw [← hR]
 have HR := Lib.hid hR
 have HW := Lib.hid (And.intro hw hs)
 have hsf := fun (a : Addr) (x : Nat) (m : Mode) (W : World) => (show (store a (.float .f64 x) m).run Tryz.prog W = stored Tryz.prog W a (.float .f64 x) m from run_store Tryz.prog W a _ m rfl)
 obtain ⟨n, hn⟩ : ∃ n, n = xs.length := ⟨_, rfl⟩
 rw [← hn] at hl ⊢
 have HN := Lib.hid hn
 clear hw hs hR hn
 by_cases h4 : n = 4
 case neg =>
  have e1 : Hid (R = none) := Lib.hid (by
   rw [HR.out]
   unfold curveF
   cases h : (xs.map bl).mapM numE with
   | none => rfl
   | some ys =>
     have h2 := (mapM_spec h).1
     rw [List.length_map, ← HN.out] at h2
     match ys, h2 with
     | [a, b, cc, d], h2 => exact absurd h2.symm h4
     | [], _ => rfl
     | [_], _ => rfl
     | [_, _], _ => rfl
     | [_, _, _], _ => rfl
     | _ :: _ :: _ :: _ :: _ :: _, _ => rfl)
  have n4 : ((n : Int) == 4) = false := beq_eq_false_iff_ne.2 (by omega)
  have n5 : ((n : Int) != 4) = true := bne_iff_ne.2 (by omega)
  clear h4
  go_enter Tryz.func56, Tryz.ntmps56
  go_wp2_with fail
  refine bodyPost_ret (v := .tuple #[.agg Z10, .bool false]) (by simp [results, Tryz.results56, go_sem, Z10]) rfl ?_
  rw [e1.out]
  exact ⟨⟨_, rfl, vz_mk sli0 sli0 sli0⟩, ((Below.refl _ w).alloc (Nat.le_refl _) _).alloc (by simp) _⟩
 case pos =>
 subst h4
 have P0 : Hid (BK ((w.alloc (.cells Z10 43)).alloc (.cells (F4 fun _ => 0) 158)) w.heap.size Z10 43 ∧ BK ((w.alloc (.cells Z10 43)).alloc (.cells (F4 fun _ => 0) 158)) (w.heap.size + 1) (F4 fun _ => 0) 158 ∧ Below w.heap.size w ((w.alloc (.cells Z10 43)).alloc (.cells (F4 fun _ => 0) 158))) := Lib.hid ⟨BK.below (heap_alloc_new w _) ((Below.refl _ _).alloc (Nat.le_refl _) _), by have := heap_alloc_new (w.alloc (.cells Z10 43)) (.cells (F4 fun _ => 0) 158); unfold BK; rw [← this]; congr 1; simp, ((Below.refl _ w).alloc (Nat.le_refl _) _).alloc (by simp) _⟩
 go_enter Tryz.func56, Tryz.ntmps56
 go_wp2_with fail
 go_loopw [5] (fun i wx => ∃ (k : Nat) (f : Nat → Nat), k ≤ 4 ∧ i = .int .i64 k ∧ Hid (∀ j, j < k → ∃ x, xs[j]? = some x ∧ numE (bl x) = some (f j)) ∧ Hid (BK wx w.heap.size Z10 43 ∧ BK wx (w.heap.size + 1) (F4 f) 158 ∧ Below w.heap.size w wx)) (fun i _ => 4 - (Lib.intOf i).toNat)
 case atStart => exact ⟨0, fun _ => 0, by decide, rfl, Lib.hid (fun j hj => absurd hj (by omega)), P0⟩
 case round =>
  clear P0
  obtain ⟨k, f, hk, rfl, hF, hP⟩ := hrel
  by_cases hlt : k < 4
  ·have hki : (k : Int) < 4 := by omega
   have k0 : (0 : Int) ≤ (k : Int) := Int.natCast_nonneg k
   obtain ⟨x, hx⟩ : ∃ x, xs[k]? = some x := ⟨xs[k]'(by have := HN.out; omega), List.getElem?_eq_getElem _⟩
   have kc := (HW.out.1.below hP.out.2.2).2 k x hx
   have C := Lib.hid (fun (w1 : World) => k100 x w1 (by have := HW.out.2 x (List.mem_of_getElem? hx); omega))
   have HX := Lib.hid hx
   have HL := Lib.hid hlt
   cases hnn : (numE (bl x)).isSome
   ·rw [hnn] at C
    have e1 : Hid (R = none) := Lib.hid (by
     rw [HR.out]
     unfold curveF
     rw [mapM_none (l := xs.map bl) (k := k) (x := bl x) (by rw [List.getElem?_map, HX.out]; rfl) (by cases h : numE (bl x) with | none => rfl | some z => rw [h] at hnn; cases hnn)])
    clear hnn hx hlt hk
    go_upto_region 9 with (go_at_call 100; refine (C.out _).mono ?_; rintro e w3 ⟨rfl, hb⟩; have B3 := Lib.hid hb; clear hb)
    have Q := Lib.hid (And.intro (hP.out.1.below B3.out) (hP.out.2.2.trans (B3.out.mono hP.out.2.2.size)))
    have kz := fun j => Q.out.1.cell j
    have kf := fun j => Q.out.1.frozen j
    have z0 := kz 0; have z1 := kz 1; have z2 := kz 2; have z3 := kz 3; have z4 := kz 4; have z5 := kz 5; have z6 := kz 6; have z7 := kz 7; have z8 := kz 8; have z9 := kz 9
    clear kz
    simp only [Z10] at z0 z1 z2 z3 z4 z5 z6 z7 z8 z9
    go_wp2_with fail
    obtain ⟨K1, K2⟩ := set10 Q.out.1 (.int .u8 0) (.float .f64 0) (.float .f64 0) (.float .f64 0) (.float .f64 0) (.int .i64 0) (.string ⟨#[]⟩) (.slice none 0 0) (.slice none 0 0) (.slice none 0 0)
    refine res56 rfl rfl rfl K1 ?_
    rw [e1.out]
    exact ⟨⟨_, rfl, vz_mk sli0 sli0 sli0⟩, K2 _ _ (Nat.le_refl _) Q.out.2⟩
   ·rw [hnn] at C
    obtain ⟨q, hq⟩ : ∃ q, q = pW (bl x) := ⟨_, rfl⟩
    have NQ : Hid (numE (bl x) = some q) := Lib.hid (by rw [hq]; exact numE_val hnn)
    rw [← hq] at C
    clear hnn hx hlt hk hq
    go_upto_region 10 with (go_at_call 100; refine (C.out _).mono ?_; rintro e w3 ⟨rfl, hb⟩; have B3 := Lib.hid hb; clear hb)
    have Q := Lib.hid (And.intro (hP.out.1.below B3.out) (And.intro (hP.out.2.1.below B3.out) (hP.out.2.2.trans (B3.out.mono hP.out.2.2.size))))
    have c4 := (Q.out.2.1.cell k).trans (F4_get f HL.out)
    have f4 := Q.out.2.1.frozen k
    go_wp2_with fail
    go_roundw
    case rel =>
     refine ⟨k + 1, fun i => if i = k then q else f i, HL.out, by first | rw [wrap_next (m := 4) HL.out (by decide)] | rfl, Lib.hid (fun j hj => ?_), Lib.hid ⟨Q.out.1.other (by omega) k _, ?_, Q.out.2.2.setCell (p := ⟨w.heap.size + 1, k, none⟩) (by show w.heap.size ≤ w.heap.size + 1; omega) _⟩⟩
     ·by_cases e : j = k
      ·subst e; exact ⟨x, HX.out, by show numE (bl x) = some (if j = j then q else f j); rw [if_pos rfl]; exact NQ.out⟩
      ·obtain ⟨y, h1, h2⟩ := hF.out j (by omega)
       exact ⟨y, h1, by show numE (bl y) = some (if j = k then q else f j); rw [if_neg e]; exact h2⟩
     ·have := Q.out.2.1.set k (.float .f64 q)
      rw [F4_set f HL.out q] at this
      exact this
    case measure =>
     first
      | exact meas_next HL.out
      | (rw [wrap_next (m := 4) HL.out (by decide)]; exact meas_next HL.out)
  ·have hki : ¬ (k : Int) < 4 := by omega
   have e : k = 4 := by omega
   subst e
   obtain ⟨x0, a0, n0⟩ := hF.out 0 (by decide)
   obtain ⟨x1, a1, n1⟩ := hF.out 1 (by decide)
   obtain ⟨x2, a2, n2⟩ := hF.out 2 (by decide)
   obtain ⟨x3, a3, n3⟩ := hF.out 3 (by decide)
   obtain ⟨f0, g0⟩ : ∃ q, q = f 0 := ⟨_, rfl⟩
   obtain ⟨f1, g1⟩ : ∃ q, q = f 1 := ⟨_, rfl⟩
   obtain ⟨f2, g2⟩ : ∃ q, q = f 2 := ⟨_, rfl⟩
   obtain ⟨f3, g3⟩ : ∃ q, q = f 3 := ⟨_, rfl⟩
   have exs : xs = [x0, x1, x2, x3] := by
    have hl4 := HN.out
    match xs, hl4, a0, a1, a2, a3 with
    | [y0, y1, y2, y3], _, h0, h1, h2, h3 =>
      simp at h0 h1 h2 h3
      rw [h0, h1, h2, h3]
   rw [← g0] at n0
   rw [← g1] at n1
   rw [← g2] at n2
   rw [← g3] at n3
   have HC : Hid (R = if inU (pl f0) = true ∧ inU (pl f2) = true then some (.curve f0 f1 f2 f3) else none) := Lib.hid (by
    rw [HR.out, exs]
    unfold curveF
    rw [List.map_cons, List.map_cons, List.map_cons, List.map_cons, List.map_nil, List.mapM_cons, List.mapM_cons, List.mapM_cons, List.mapM_cons, List.mapM_nil, n0, n1, n2, n3]
    rfl)
   have u0 := numE_FW n0
   have u2 := numE_FW n2
   have i0 := inU_eq u0
   have i2 := inU_eq u2
   have b0 := hP.out.2.1.cell 0
   have b1 := hP.out.2.1.cell 1
   have b2 := hP.out.2.1.cell 2
   have b3 := hP.out.2.1.cell 3
   simp only [F4, ← g0, ← g1, ← g2, ← g3] at b0 b1 b2 b3
   have z0 := hP.out.1.cell 0; have z1 := hP.out.1.cell 1; have z2 := hP.out.1.cell 2; have z3 := hP.out.1.cell 3; have z4 := hP.out.1.cell 4; have z5 := hP.out.1.cell 5; have z6 := hP.out.1.cell 6; have z7 := hP.out.1.cell 7; have z8 := hP.out.1.cell 8; have z9 := hP.out.1.cell 9
   simp only [Z10] at z0 z1 z2 z3 z4 z5 z6 z7 z8 z9
   have kf := fun j => hP.out.1.frozen j
   have t1 := (RV.self u0.1).ge zero_RV
   have t2 := (RV.self u0.1).le one_RV
   have t3 := (RV.self u2.1).ge zero_RV
   have t4 := (RV.self u2.1).le one_RV
   have II := Lib.hid (And.intro i0 i2)
   obtain ⟨c1, h1⟩ : ∃ b, b = fleP 0 (pl f0) := ⟨_, rfl⟩
   obtain ⟨c2, h2⟩ : ∃ b, b = fleP (pl f0) (iP 1) := ⟨_, rfl⟩
   obtain ⟨c3, h3⟩ : ∃ b, b = fleP 0 (pl f2) := ⟨_, rfl⟩
   obtain ⟨c4, h4⟩ : ∃ b, b = fleP (pl f2) (iP 1) := ⟨_, rfl⟩
   rw [← h1] at t1
   rw [← h2] at t2
   rw [← h3] at t3
   rw [← h4] at t4
   rw [← h1, ← h2, ← h3, ← h4] at II
   clear a0 a1 a2 a3 n0 n1 n2 n3 g0 g1 g2 g3 exs u0 u2 i0 i2 h1 h2 h3 h4 hlt hk hF
   have fin : ∀ (b : Bool), b = ((c1 && c2) && (c3 && c4)) → ∀ wf : World, BK wf w.heap.size #[.int .u8 99, .float .f64 f0, .float .f64 f1, .float .f64 f2, .float .f64 f3, .int .i64 0, .string ⟨#[]⟩, .slice none 0 0, .slice none 0 0, .slice none 0 0] 43 → Below w.heap.size w wf → RefR w R (.returned (.tuple #[.agg #[.int .u8 99, .float .f64 f0, .float .f64 f1, .float .f64 f2, .float .f64 f3, .int .i64 0, .string ⟨#[]⟩, .slice none 0 0, .slice none 0 0, .slice none 0 0], .bool b])) wf := fun b hb wf _ hB => by
    rw [HC.out, II.out.1, II.out.2]
    cases b
    ·rw [if_neg (by rintro ⟨e1, e2⟩; rw [e1, e2] at hb; cases hb)]
     exact ⟨⟨_, rfl, vz_mk sli0 sli0 sli0⟩, hB⟩
    ·have hb2 := hb.symm
     rw [Bool.and_eq_true] at hb2
     rw [if_pos hb2]
     exact ⟨⟨_, rfl, 99, f0, f1, f2, f3, 0, ⟨#[]⟩, .slice none 0 0, .slice none 0 0, .slice none 0 0, rfl, sli0, sli0, sli0, rfl, rfl, rfl, rfl, rfl⟩, hB⟩
   have FIN := Lib.hid fin
   clear fin
   cases c1
   ·go_wp2_with fail
    obtain ⟨K1, K2⟩ := set10 hP.out.1 (.int .u8 99) (.float .f64 f0) (.float .f64 f1) (.float .f64 f2) (.float .f64 f3) (.int .i64 0) (.string ⟨#[]⟩) (.slice none 0 0) (.slice none 0 0) (.slice none 0 0)
    exact res56 rfl rfl rfl K1 (FIN.out _ rfl _ K1 (K2 _ _ (Nat.le_refl _) hP.out.2.2))
   cases c2
   ·go_wp2_with fail
    obtain ⟨K1, K2⟩ := set10 hP.out.1 (.int .u8 99) (.float .f64 f0) (.float .f64 f1) (.float .f64 f2) (.float .f64 f3) (.int .i64 0) (.string ⟨#[]⟩) (.slice none 0 0) (.slice none 0 0) (.slice none 0 0)
    exact res56 rfl rfl rfl K1 (FIN.out _ rfl _ K1 (K2 _ _ (Nat.le_refl _) hP.out.2.2))
   cases c3
   ·go_wp2_with fail
    obtain ⟨K1, K2⟩ := set10 hP.out.1 (.int .u8 99) (.float .f64 f0) (.float .f64 f1) (.float .f64 f2) (.float .f64 f3) (.int .i64 0) (.string ⟨#[]⟩) (.slice none 0 0) (.slice none 0 0) (.slice none 0 0)
    exact res56 rfl rfl rfl K1 (FIN.out _ rfl _ K1 (K2 _ _ (Nat.le_refl _) hP.out.2.2))
   cases c4
   ·go_wp2_with fail
    obtain ⟨K1, K2⟩ := set10 hP.out.1 (.int .u8 99) (.float .f64 f0) (.float .f64 f1) (.float .f64 f2) (.float .f64 f3) (.int .i64 0) (.string ⟨#[]⟩) (.slice none 0 0) (.slice none 0 0) (.slice none 0 0)
    exact res56 rfl rfl rfl K1 (FIN.out _ rfl _ K1 (K2 _ _ (Nat.le_refl _) hP.out.2.2))
   ·go_wp2_with fail
    obtain ⟨K1, K2⟩ := set10 hP.out.1 (.int .u8 99) (.float .f64 f0) (.float .f64 f1) (.float .f64 f2) (.float .f64 f3) (.int .i64 0) (.string ⟨#[]⟩) (.slice none 0 0) (.slice none 0 0) (.slice none 0 0)
    exact res56 rfl rfl rfl K1 (FIN.out _ rfl _ K1 (K2 _ _ (Nat.le_refl _) hP.out.2.2))
end Go.Proofs.YtlgencbldbpbdaaGreatDoor
namespace Go.Proofs.YtlgencbldbpbdaaGreatDoor
open Go.RowKit Fl
theorem words_spl : ∀ (l cur h : List Nat) (t : List (List Nat)), splN 32 l = h :: t → wG cur l = ((cur ++ h) :: t).filter (fun x => decide (x ≠ []))
 | [], cur, h, t, e => by
   injection e with e1 e2
   subst e1; subst e2
   show (if cur = [] then [] else [cur]) = _
   by_cases c : cur = []
   ·rw [if_pos c, c]; rfl
   ·rw [if_neg c]; simp [c]
 | b :: l, cur, h, t, e => by
   obtain ⟨h', t', e'⟩ : ∃ h' t', splN 32 l = h' :: t' := by
    cases hh : splN 32 l with
    | nil => exact absurd hh (splN_ne 32 l)
    | cons a r => exact ⟨a, r, rfl⟩
   unfold splN at e
   by_cases hb : b = 32
   ·rw [if_pos hb] at e
    injection e with e1 e2
    subst e1; subst e2
    have ih := words_spl l [] h' t' e'
    rw [List.nil_append, ← e'] at ih
    show (if b = 32 then (if cur = [] then wG [] l else cur :: wG [] l) else wG (cur ++ [b]) l) = _
    rw [if_pos hb, ih]
    by_cases c : cur = []
    ·rw [if_pos c, c]; simp
    ·rw [if_neg c]; simp [c]
   ·rw [if_neg hb, e'] at e
    injection e with e1 e2
    subst e1; subst e2
    have ih := words_spl l (cur ++ [b]) h' _ e'
    show (if b = 32 then (if cur = [] then wG [] l else cur :: wG [] l) else wG (cur ++ [b]) l) = _
    rw [if_neg hb, ih, List.append_assoc]
    rfl
theorem words_parts (l : List Nat) : wordsN l = (splN 32 l).filter (fun x => decide (x ≠ [])) := by
 obtain ⟨h', t', e'⟩ : ∃ h' t', splN 32 l = h' :: t' := by
  cases hh : splN 32 l with
  | nil => exact absurd hh (splN_ne 32 l)
  | cons a r => exact ⟨a, r, rfl⟩
 unfold wordsN
 rw [words_spl l [] h' t' e', e', List.nil_append]
theorem own_bk {w : World} {B e size n p : Nat} {v : Value} {xs : List Value} {cs : Array Value} {t : TypeId} (h : w.ownsRow B e size v n xs) (hb : BK w p cs t) (he : e ≠ t) : v.ownBlock ≠ some p := by
 intro hv
 rcases h.2 with ⟨rfl, -⟩ | ⟨g, cap, cur, rfl, -, hg, -⟩
 ·cases hv
 ·injection hv with hv
  have hv : g = p := hv
  subst hv
  unfold BK at hb
  rw [hg] at hb
  injection hb with hb
  injection hb with _ h2
  exact he h2
theorem BK.grown {w w' : World} {p : Nat} {cs : Array Value} {t : TypeId} {row : Option Nat} (h : BK w p cs t) (hg : w.grownBy w' row) (hne : row ≠ some p) : BK w' p cs t := by
 unfold BK
 rw [hg.block p h.lt (fun e => hne e.symm)]
 exact h
def keepW (ps : List ByteArray) (k : Nat) : List ByteArray := (ps.take k).filter (fun x => decide (x.size ≠ 0))
theorem keep_next {ps : List ByteArray} {k : Nat} {x : ByteArray} (hx : ps[k]? = some x) : keepW ps (k + 1) = keepW ps k ++ (if x.size ≠ 0 then [x] else []) := by
 unfold keepW
 rw [take_next hx, List.filter_append]
 by_cases h : x.size ≠ 0
 ·rw [if_pos h]; unfold List.filter; rw [decide_eq_true h]; rfl
 ·rw [if_neg h]; unfold List.filter; rw [decide_eq_false h]; rfl
theorem keep_all {ps : List ByteArray} {l : List Nat} (h : ps.map bl = splN 32 l) : (keepW ps ps.length).map bl = wordsN l := by
 unfold keepW
 rw [List.take_length, words_parts, ← h, List.filter_map]
 congr 1
 refine List.filter_congr fun x _ => ?_
 refine decide_eq_decide.2 ?_
 constructor
 ·intro h1 e
  exact h1 (by rw [← bl_len, e]; rfl)
 ·intro h1 e
  exact h1 (List.eq_nil_of_length_eq_zero (by rw [bl_len]; exact e))
theorem keep_len {ps : List ByteArray} {k : Nat} : (keepW ps k).length ≤ k := by
 unfold keepW
 refine Nat.le_trans (List.length_filter_le _ _) ?_
 rw [List.length_take]; omega
theorem tl_empty (x : ByteArray) : (x.toList == []) = decide (x.size = 0) := by
 rw [tl_eq]
 refine decide_eq_decide.2 ?_
 constructor
 ·intro h
  rw [← bl_len, h]; rfl
 ·intro h
  exact List.eq_nil_of_length_eq_zero (by rw [bl_len]; exact h)
theorem grown_setj (W : World) (b j : Nat) (v : Value) : W.grownBy (W.setCell ⟨b, j, none⟩ v) (some b) :=
 ⟨rfl, rfl, rfl, by simp [World.setCell], fun k _ hk => Below.heap_setCell _ _ _ k (fun e => hk (by rw [e]))⟩
theorem own_base {w : World} {B B' e size n : Nat} {v : Value} {xs : List Value} (h : w.ownsRow B e size v n xs) (hb : B' ≤ B) : w.ownsRow B' e size v n xs := by
 refine ⟨h.1, ?_⟩
 rcases h.2 with h1 | ⟨g, cap, cur, h1, h2, h3⟩
 ·exact .inl h1
 ·exact .inr ⟨g, cap, cur, h1, Nat.le_trans hb h2, h3⟩
def PtR (w : World) (R : Option (Nat × List Nat)) (e : Ending) (w' : World) : Prop := (match R with
    | none => ∃ (q : Nat) (a : Option Addr) (m c : Nat), e = .returned (.tuple #[.agg #[.float .f64 q, .slice a m c], .bool false])
    | some p => ∃ u, e = .returned (.tuple #[.agg #[.float .f64 p.1, u], .bool true]) ∧ w'.ownsRow w.heap.size 31 1 u p.2.length (p.2.map fv)) ∧ Below w.heap.size w w'
theorem set2 {w : World} {g : Nat} {a0 a1 : Value} (h : BK w g #[a0, a1] 118) (v0 v1 : Value) : BK ((w.setCell ⟨g, 0, none⟩ v0).setCell ⟨g, 1, none⟩ v1) g #[v0, v1] 118 ∧ ∀ (B : Nat) (w0 : World), B ≤ g → Below B w0 w → Below B w0 ((w.setCell ⟨g, 0, none⟩ v0).setCell ⟨g, 1, none⟩ v1) := by
 refine ⟨?_, fun B w0 hB hb => (hb.setCell (p := ⟨g, 0, none⟩) hB v0).setCell (p := ⟨g, 1, none⟩) hB v1⟩
 have := (h.set 0 v0).set 1 v1
 simpa [List.setIfInBounds_toArray] using this
theorem res102 {wf : World} {a : Act} {g : Nat} {b : Bool} {v0 v1 : Value} {Q : Ending → World → Prop} (h2 : a.tmps[2]? = some (.pointer (some ⟨g, 0, none⟩))) (h3 : a.tmps[3]? = some (.bool b)) (hd : a.defers = []) (hk : BK wf g #[v0, v1] 118) (hQ : Q (.returned (.tuple #[.agg #[v0, v1], .bool b])) wf) : bodyPost Tryz.prog Tryz.f102 Q Exit.ret a wf := by
 have z0 := hk.cell 0; have z1 := hk.cell 1
 exact bodyPost_ret (v := .tuple #[.agg #[v0, v1], .bool b]) (by simp [results, Tryz.results102, go_sem, h2, h3, z0, z1]) hd hQ
set_option maxRecDepth 100000 in
set_option maxHeartbeats 4000000 in
theorem k102 (s : ByteArray) (w : World) (hs : s.size ≤ 2000) : Calls Tryz.prog 102 #[.string s] w fun e w' => PtR w (ptF (bl s)) e w' := by
 obtain ⟨R, hR⟩ : ∃ R, R = ptF (bl s) := ⟨_, rfl⟩
 rw [← hR]
 have HR := Lib.hid hR
 have HS := Lib.hid hs
 have hsf := fun (a : Addr) (x : Nat) (m : Mode) (W : World) => (show (store a (.float .f64 x) m).run Tryz.prog W = stored Tryz.prog W a (.float .f64 x) m from run_store Tryz.prog W a _ m rfl)
 have C99 := Lib.hid (fun (w1 : World) => k99 s 32 w1 (by omega) (by decide))
 clear hR hs
 go_enter Tryz.func102, Tryz.ntmps102
 go_upto_region 3 with (go_at_call 99; refine (C99.out _).mono ?_; rintro e w3 ⟨⟨u, ps, rfl, hps, hown⟩, hb⟩; have HP := Lib.hid (And.intro hps hown); have B3 := Lib.hid hb; clear hps hown hb)
 have pl1 : 0 < ps.length := by
  have h1 := congrArg List.length HP.out.1
  rw [List.length_map] at h1
  rw [h1]
  exact List.length_pos_iff.2 (splN_ne 32 _)
 obtain ⟨g, cap, rfl, gB, gS, gc, kcs⟩ := own_cells HP.out.2 pl1
 obtain ⟨m, hm⟩ : ∃ m, m = ps.length := ⟨_, rfl⟩
 have PLN : Hid (m = ps.length ∧ m ≤ 2001 ∧ ∀ v ∈ ps, v.size ≤ 2000) := Lib.hid ⟨hm, by
  have h1 := congrArg List.length HP.out.1
  rw [List.length_map] at h1
  have h2 := splN_length 32 (bl s)
  rw [bl_len] at h2
  have := HS.out
  omega, fun v hv => by
  have h1 := splN_len 32 (bl s) (bl v) (by rw [← HP.out.1]; exact List.mem_map_of_mem hv)
  rw [bl_len, bl_len] at h1
  have := HS.out
  omega⟩
 have LP : Hid (LS w3 g ps) := Lib.hid ⟨gS, fun k x hk => kcs k _ (by unfold sv; rw [List.getElem?_map, hk]; rfl)⟩
 have B0 : Hid (BK w3 w.heap.size #[.float .f64 0, .slice none 0 0] 118) := Lib.hid (BK.below (heap_alloc_new w _) B3.out)
 have BW3 : Hid (Below w.heap.size w w3) := Lib.hid (((Below.refl _ w).alloc (Nat.le_refl _) _).trans (B3.out.mono (by simp)))
 rw [← hm]
 have S0 : Hid (w3.ownsRow w3.heap.size 9 1 (.slice none 0 0) (keepW ps 0).length (sv (keepW ps 0))) := Lib.hid (World.ownsRow_nil _ _ _ _)
 clear hm pl1 gB gS gc kcs B3 C99
 go_wp2_with fail
 go_loopw [4, 6] (fun u i wx => ∃ (k : Nat), k ≤ m ∧ i = .int .i64 k ∧ Hid (wx.ownsRow w3.heap.size 9 1 u (keepW ps k).length (sv (keepW ps k))) ∧ Hid (Below w3.heap.size w3 wx)) (fun _ i _ => m - (Lib.intOf i).toNat)
 case atStart => exact ⟨0, Nat.zero_le _, rfl, S0, Lib.hid (Below.refl _ _)⟩
 case round =>
  clear S0
  obtain ⟨k, hk, rfl, hO, hB⟩ := hrel
  by_cases hlt : k < m
  ·have hki : (k : Int) < (m : Int) := by omega
   have k0 : (0 : Int) ≤ (k : Int) := Int.natCast_nonneg k
   obtain ⟨x, hx⟩ : ∃ x, ps[k]? = some x := ⟨ps[k]'(by have := PLN.out.1; omega), List.getElem?_eq_getElem _⟩
   have kc := (LP.out.below hB.out).2 k x hx
   have q1 := tl_empty x
   have KN := keep_next hx
   have HL := Lib.hid hlt
   have KL := Lib.hid (show (keepW ps k).length ≤ k from keep_len)
   by_cases hz : x.size = 0
   ·rw [decide_eq_true hz] at q1
    rw [if_neg (not_not_intro hz), List.append_nil] at KN
    have O2 : Hid (wr.ownsRow w3.heap.size 9 1 u4 (keepW ps (k + 1)).length (sv (keepW ps (k + 1)))) := Lib.hid (by rw [KN]; exact hO.out)
    clear hx KN hz hk hlt
    go_wp2_with fail
    go_roundw
    case rel => exact ⟨k + 1, HL.out, by first | rw [wrap_next HL.out PLN.out.2.1] | rfl, O2, hB⟩
    case measure =>
     first
      | exact meas_next HL.out
      | (rw [wrap_next HL.out PLN.out.2.1]; exact meas_next HL.out)
   ·rw [decide_eq_false hz] at q1
    rw [if_pos hz] at KN
    have KE := Lib.hid KN
    clear hx KN hz hk hlt
    go_wp2_with (at_builtin; refine app_one rfl _ _ 36 9 rfl (.string ByteArray.empty) 1 16 Tryz.underlying36 (by kernel_rfl) rfl (by decide) w3.heap.size _ _ _ rfl hO.out #[.string x] rfl ?c1 rfl ?c2 ?c3 ?c4 ?_)
    case c1 => first | rfl | (intro u hu; simp at hu; subst hu; rfl)
    case c2 => have h1 := KL.out; have h2 := PLN.out.2.1; have h3 := HL.out; omega
    case c3 => have h1 := KL.out; have h2 := PLN.out.2.1; have h3 := HL.out; omega
    case c4 => exact hB.out.size
    intro v3 w4 hown hbel hsz
    have O2 : Hid (w4.ownsRow w3.heap.size 9 1 v3 (keepW ps (k + 1)).length (sv (keepW ps (k + 1)))) := Lib.hid (by rw [KE.out]; unfold sv; rw [List.map_append, List.length_append]; exact hown)
    have B4 := Lib.hid (hbel w3 (Nat.le_refl _) hB.out)
    clear hown hbel hsz
    go_wp2
    go_roundw
    case rel => exact ⟨k + 1, HL.out, by first | rw [wrap_next HL.out PLN.out.2.1] | rfl, O2, B4⟩
    case measure =>
     first
      | exact meas_next HL.out
      | (rw [wrap_next HL.out PLN.out.2.1]; exact meas_next HL.out)
  ·have hki : ¬ (k : Int) < (m : Int) := by omega
   have e : k = m := by omega
   subst e
   obtain ⟨ws, hws⟩ : ∃ ws, ws = keepW ps k := ⟨_, rfl⟩
   have WW : Hid (ws.map bl = wordsN (bl s) ∧ ∀ y ∈ ws, y.size ≤ 2000 ∧ 0 < y.size) := Lib.hid ⟨by rw [hws, PLN.out.1]; exact keep_all HP.out.1, fun y hy => by
    rw [hws] at hy
    unfold keepW at hy
    obtain ⟨h1, h2⟩ := List.mem_filter.1 hy
    have h3 := of_decide_eq_true h2
    exact ⟨PLN.out.2.2 y (List.mem_of_mem_take h1), by omega⟩⟩
   rw [← hws] at hO
   obtain ⟨n, hn⟩ : ∃ n, n = ws.length := ⟨_, rfl⟩
   rw [← hn] at hO
   have BZ := Lib.hid (B0.out.below hB.out)
   have BW := Lib.hid (BW3.out.trans (hB.out.mono BW3.out.size))
   have RE : Hid (R = ptW (ws.map bl)) := Lib.hid (by rw [HR.out, WW.out.1]; rfl)
   have z0 := BZ.out.cell 0
   have z1 := BZ.out.cell 1
   have zf := fun j => BZ.out.frozen j
   have HN := Lib.hid hn
   clear hws hk hlt hB
   have bad : (n < 1 ∨ 3 < n) → R = none := fun h => by rw [RE.out]; exact ptW_bad (by rw [List.length_map, ← HN.out]; exact h)
   have BAD := Lib.hid bad
   obtain ⟨ol, nn, hl⟩ : ∃ (a : Option Addr) (c : Nat), u4 = .slice a n c := by
    rcases own_len hO.out with ⟨e, h0⟩ | ⟨g', c', e⟩
    ·exact ⟨none, 0, by rw [e, h0]⟩
    ·exact ⟨_, _, e⟩
   subst hl
   clear bad hn
   by_cases n1 : n < 1
   ·have c1 : (n : Int) < 1 := by omega
    have e1 := Lib.hid (BAD.out (.inl n1))
    clear n1
    go_wp2_with fail
    obtain ⟨K1, K2⟩ := set2 BZ.out (.float .f64 0) (.slice none 0 0)
    refine res102 rfl rfl rfl K1 ?_
    rw [e1.out]
    exact ⟨⟨_, _, _, _, rfl⟩, K2 _ _ (Nat.le_refl _) BW.out⟩
   by_cases n3 : 3 < n
   ·have c1 : ¬ (n : Int) < 1 := by omega
    have c2 : (n : Int) > 3 := by omega
    have e1 := Lib.hid (BAD.out (.inr n3))
    clear n1 n3
    go_wp2_with fail
    obtain ⟨K1, K2⟩ := set2 BZ.out (.float .f64 0) (.slice none 0 0)
    refine res102 rfl rfl rfl K1 ?_
    rw [e1.out]
    exact ⟨⟨_, _, _, _, rfl⟩, K2 _ _ (Nat.le_refl _) BW.out⟩
   have c1 : ¬ (n : Int) < 1 := by omega
   have c2 : ¬ (n : Int) > 3 := by omega
   have c0 : (0 : Int) < (n : Int) := by omega
   obtain ⟨a, r, har⟩ : ∃ a r, ws = a :: r := by
    cases ws with
    | nil => have := HN.out; simp at this; omega
    | cons a r => exact ⟨a, r, rfl⟩
   obtain ⟨gw, cw, ew, -, gwS, -, kws⟩ := own_cells hO.out (by omega)
   injection ew with a1 a2 a3
   subst a1
   clear a2 a3
   have ka := kws 0 (.string a) (by unfold sv; rw [List.getElem?_map, har]; rfl)
   have LW : Hid (LS wr gw ws) := Lib.hid ⟨gwS, fun k x hk => kws k _ (by unfold sv; rw [List.getElem?_map, hk]; rfl)⟩
   have C := Lib.hid (fun (w1 : World) => k100 a w1 (by have := (WW.out.2 a (by rw [har]; exact List.mem_cons_self ..)).1; omega))
   have NN := Lib.hid (And.intro n1 n3)
   have HAR := Lib.hid har
   have NA : Hid (numE (bl a) = none → R = none) := Lib.hid (fun h => by rw [RE.out, HAR.out, List.map_cons]; exact ptW_head h)
   obtain ⟨q, hq⟩ : ∃ q, q = pW (bl a) := ⟨_, rfl⟩
   obtain ⟨ok, hok⟩ : ∃ ok, ok = (numE (bl a)).isSome := ⟨_, rfl⟩
   rw [← hq, ← hok] at C
   have OK0 : Hid ((ok = true → numE (bl a) = some q) ∧ (ok = false → R = none)) := Lib.hid ⟨fun h => by rw [hq]; exact numE_val (by rw [← hok]; exact h), fun h => NA.out (by cases h2 : numE (bl a) with | none => rfl | some z => rw [h2] at hok; rw [hok] at h; cases h)⟩
   clear n1 n3 har gwS kws hq hok hO BAD z0 z1 zf
   go_upto_region 12 with (go_at_call 100; refine (C.out _).mono ?_; rintro e w5 ⟨rfl, hb⟩; have B5 := Lib.hid hb; clear hb)
   have L5 := Lib.hid (LW.out.below B5.out)
   have B6 : Hid (BK (w5.alloc (.cells #[.float .f64 q, .slice none 0 0] 118)) w5.heap.size #[.float .f64 q, .slice none 0 0] 118 ∧ (w5.alloc (.cells #[.float .f64 q, .slice none 0 0] 118)).ownsRow w5.heap.size 31 1 (.slice none 0 0) ([] : List Nat).length (([] : List Nat).map fv) ∧ Below w5.heap.size w5 (w5.alloc (.cells #[.float .f64 q, .slice none 0 0] 118))) := Lib.hid ⟨heap_alloc_new w5 _, World.ownsRow_nil _ _ _ _, (Below.refl _ _).alloc (Nat.le_refl _) _⟩
   have BZ5 := Lib.hid (BZ.out.below B5.out)
   have BW5 := Lib.hid (BW.out.trans (B5.out.mono BW.out.size))
   have HNR : Hid (n = r.length + 1) := Lib.hid (by rw [HN.out, HAR.out]; rfl)
   clear C ka c0 B5 LP B0 BW3 HP hsf
   have hsf := fun (a : Addr) (x : Nat) (m : Mode) (W : World) => (show (store a (.float .f64 x) m).run Tryz.prog W = stored Tryz.prog W a (.float .f64 x) m from run_store Tryz.prog W a _ m rfl)
   go_wp2_with fail
   go_loopw [8, 10] (fun okv i wx => ∃ (o : Bool) (qs : List Nat) (uv : Value), i = .int .i64 (qs.length + 1 : Nat) ∧ okv = .bool o ∧ Hid (qs.length + 1 ≤ n ∧ (o = true → numE (bl a) = some q ∧ ((r.map bl).take qs.length).mapM pctF = some qs) ∧ (o = false → R = none)) ∧ Hid (BK wx w5.heap.size #[.float .f64 q, uv] 118 ∧ wx.ownsRow w5.heap.size 31 1 uv qs.length (qs.map fv) ∧ Below w5.heap.size w5 wx)) (fun _ i _ => n - (Lib.intOf i).toNat)
   case atStart => exact ⟨ok, [], .slice none 0 0, rfl, rfl, Lib.hid ⟨by have := NN.out.1; simp; omega, fun h => ⟨OK0.out.1 h, rfl⟩, OK0.out.2⟩, B6⟩
   case round =>
    clear B6
    obtain ⟨o, qs, uv, rfl, rfl, hQ, hW⟩ := hrel
    obtain ⟨pa, pc, hpc⟩ : ∃ (a : Option Addr) (c : Nat), uv = .slice a qs.length c := by
     rcases own_len hW.out.2.1 with ⟨e, h0⟩ | ⟨g', c', e⟩
     ·exact ⟨none, 0, by rw [e, h0]⟩
     ·exact ⟨_, _, e⟩
    subst hpc
    obtain ⟨kk, hkk⟩ : ∃ kk, kk = qs.length + 1 := ⟨_, rfl⟩
    rw [← hkk]
    have HKK := Lib.hid hkk
    have z1 := hW.out.1.cell 1
    have z0 := hW.out.1.cell 0
    have zf := fun j => hW.out.1.frozen j
    by_cases hlt : kk < n
    ·have hki : (kk : Int) < (n : Int) := by omega
     have kk0 : (0 : Int) ≤ (kk : Int) := Int.natCast_nonneg kk
     cases o
     ·have y0 := BZ5.out.below hW.out.2.2
      have y1 := y0.cell 0
      have y2 := y0.cell 1
      have yf := fun j => y0.frozen j
      have BB := Lib.hid y0
      have e1 := Lib.hid (hQ.out.2.2 rfl)
      clear y0 hkk hlt
      go_wp2_with fail
      obtain ⟨K1, K2⟩ := set2 BB.out (.float .f64 q) (.slice pa qs.length pc)
      refine res102 rfl rfl rfl K1 ?_
      rw [e1.out]
      exact ⟨⟨_, _, _, _, rfl⟩, K2 _ _ (Nat.le_refl _) (BW5.out.trans (hW.out.2.2.mono BW5.out.size))⟩
     ·obtain ⟨y, hy⟩ : ∃ y, r[qs.length]? = some y := ⟨r[qs.length]'(by have := HNR.out; omega), List.getElem?_eq_getElem _⟩
      have hyw : ws[kk]? = some y := by rw [HAR.out, hkk]; exact hy
      have kc := (L5.out.below hW.out.2.2).2 kk y hyw
      obtain ⟨ys1, ys2⟩ := WW.out.2 y (List.mem_of_getElem? hyw)
      obtain ⟨j, hj⟩ : ∃ j, y.size = j + 1 := ⟨y.size - 1, by omega⟩
      have hjs : j < y.size := by omega
      have y1 : (y.size : Int) ≤ 4611686018427387904 := by omega
      have y3 : (1 : Int) ≤ (y.size : Int) := by omega
      have y4 : (y.size : Int) - 1 = (j : Int) := by omega
      have y5 : (j : Int) < (y.size : Int) := by omega
      have eb : bl (y.extract 0 j) = (bl y).dropLast := by
       have := drop_ext y
       rw [hj, Nat.add_sub_cancel] at this
       exact this
      have gl : (bl y).getLast? = some (y[j]'hjs).toNat := by rw [List.getLast?_eq_getElem?, bl_len, hj, Nat.add_sub_cancel]; exact bl_get y j hjs
      have C2 := Lib.hid (fun (w1 : World) => k100 (y.extract 0 j) w1 (by rw [ByteArray.size_extract]; omega))
      obtain ⟨q2, hq2⟩ : ∃ q, q = pW (bl (y.extract 0 j)) := ⟨_, rfl⟩
      obtain ⟨fi, hfi⟩ : ∃ ok, ok = (numE (bl (y.extract 0 j))).isSome := ⟨_, rfl⟩
      obtain ⟨lb, hlb⟩ : ∃ b, b = (((y[j]'hjs).toNat : Int) == 37) := ⟨_, rfl⟩
      have b0 := hlb.symm
      have PC : pctF (bl y) = if (fi && lb) = true then some q2 else none := by
       unfold pctF
       rw [gl]
       by_cases c : (y[j]'hjs).toNat = 37
       ·have : lb = true := by rw [hlb]; exact beq_iff_eq.2 (by omega)
        rw [c, if_pos rfl, this, Bool.and_true, ← eb]
        cases h : fi
        ·rw [if_neg (by decide)]
         rw [h] at hfi
         cases h2 : numE (bl (y.extract 0 j)) with
         | none => rfl
         | some z => rw [h2] at hfi; cases hfi
        ·rw [if_pos rfl, hq2]
         exact numE_val (by rw [← hfi, h])
       ·have : lb = false := by rw [hlb]; exact beq_eq_false_iff_ne.2 (by omega)
        rw [if_neg (fun e => c (Option.some.inj e)), this, Bool.and_false, if_neg (by decide)]
      rw [← hq2, ← hfi] at C2
      have HPC := Lib.hid PC
      have HY := Lib.hid (And.intro hy hlt)
      have NEXT : Hid ((qs ++ [q2]).length + 1 ≤ n ∧ ((fi && lb) = true → numE (bl a) = some q ∧ ((r.map bl).take (qs ++ [q2]).length).mapM pctF = some (qs ++ [q2])) ∧ ((fi && lb) = false → R = none)) := Lib.hid (by
       obtain ⟨h1, h2, h3⟩ := hQ.out
       obtain ⟨h4, h5⟩ := h2 rfl
       refine ⟨by rw [List.length_append, List.length_singleton]; omega, fun h => ⟨h4, ?_⟩, fun h => ?_⟩
       ·rw [List.length_append, List.length_singleton]
        exact mapM_take (x := bl y) (by rw [List.getElem?_map, HY.out.1]; rfl) h5 (by rw [HPC.out, if_pos h])
       ·rw [RE.out, HAR.out, List.map_cons]
        exact ptW_tail (k := qs.length) (b := bl y) (by rw [List.getElem?_map, HY.out.1]; rfl) (by rw [HPC.out, h, if_neg (by decide)]))
      have HJ := Lib.hid hkk
      clear hy hyw ys1 ys2 hj eb gl hq2 hfi hlb PC hlt hkk z0 z1 zf
      go_upto_region 17 with (go_at_call 100; refine (C2.out _).mono ?_; rintro e w6 ⟨rfl, hb⟩; have B6 := Lib.hid hb; clear hb)
      have W6 := Lib.hid (And.intro (hW.out.1.below B6.out) (And.intro (own_below1 hW.out.2.1 B6.out) (hW.out.2.2.trans (B6.out.mono hW.out.2.2.size))))
      have z1 := W6.out.1.cell 1
      have zf := fun j => W6.out.1.frozen j
      have QL := Lib.hid (show qs.length ≤ 10 by have h1 := HY.out.2; have h2 := NN.out.2; have h3 := HJ.out; omega)
      have kk1 := Lib.hid (show wrap64 ((kk : Int) + 1) = (((qs ++ [q2]).length + 1 : Nat) : Int) by rw [List.length_append, List.length_singleton, ← HJ.out]; have h1 := QL.out; have h3 := HJ.out; unfold wrap64; omega)
      have kk1' : Hid (Value.int .i64 ((kk : Int) + 1) = .int .i64 (((qs ++ [q2]).length + 1 : Nat) : Int)) := Lib.hid (by rw [List.length_append, List.length_singleton, ← HJ.out]; rfl)
      cases fi
      ·go_wp2_with (at_builtin; refine app_two rfl _ _ 22 31 rfl (.float .f64 0) 1 8 Tryz.underlying22 (by kernel_rfl) rfl (by decide) w5.heap.size _ _ _ rfl W6.out.2.1 #[fv q2] rfl ?c1 rfl ?c2 ?c3 ?c4 ?_)
       case c1 => first | rfl | (intro u hu; simp [fv] at hu; subst hu; rfl)
       case c2 => have := QL.out; omega
       case c3 => have := QL.out; omega
       case c4 => exact W6.out.2.2.size
       intro v8 w8 hown hg
       obtain ⟨g8, c8, m8, rfl⟩ : ∃ g8 c8 m8, v8 = .slice (some ⟨g8, 0, none⟩) m8 c8 := by
        rcases hown.2 with ⟨-, h⟩ | ⟨g, cap, _, e, _⟩
        ·omega
        ·exact ⟨g, cap, _, e⟩
       have K8 := Lib.hid (BK.grown W6.out.1 hg (own_bk W6.out.2.1 W6.out.1 (by decide)))
       have k8 := K8.out.cell 1
       have f8 := K8.out.frozen 1
       have ho8 : w8.ownsRow w5.heap.size 31 1 (.slice (some ⟨g8, 0, none⟩) m8 c8) (qs ++ [q2]).length ((qs ++ [q2]).map fv) := by rw [List.map_append, List.length_append]; exact hown
       have HE : Hid (BK (w8.setCell ⟨w5.heap.size, 1, none⟩ (.slice (some ⟨g8, 0, none⟩) m8 c8)) w5.heap.size #[.float .f64 q, .slice (some ⟨g8, 0, none⟩) m8 c8] 118 ∧ (w8.setCell ⟨w5.heap.size, 1, none⟩ (.slice (some ⟨g8, 0, none⟩) m8 c8)).ownsRow w5.heap.size 31 1 (.slice (some ⟨g8, 0, none⟩) m8 c8) (qs ++ [q2]).length ((qs ++ [q2]).map fv) ∧ Below w5.heap.size w5 (w8.setCell ⟨w5.heap.size, 1, none⟩ (.slice (some ⟨g8, 0, none⟩) m8 c8))) := Lib.hid ⟨by
         have := K8.out.set 1 (.slice (some ⟨g8, 0, none⟩) m8 c8)
         simpa [List.setIfInBounds_toArray] using this, ho8.kept (grown_setj w8 w5.heap.size 1 _) (.inr (own_bk ho8 K8.out (by decide))), (own_row W6.out.2.1 W6.out.2.2 W6.out.2.2.size hg).setCell (p := ⟨w5.heap.size, 1, none⟩) (Nat.le_refl _) _⟩
       clear hown hg ho8 W6 K8 zf z1
       go_wp2
       go_roundw
       case rel => exact ⟨_, qs ++ [q2], _, by first | rw [kk1.out] | exact kk1'.out, rfl, NEXT, HE⟩
       case measure =>
        first
         | exact meas_next HY.out.2
         | (rw [wrap_next HY.out.2 (by have := NN.out.2; omega)]; exact meas_next HY.out.2)
      ·go_wp2_with (at_builtin; refine app_two rfl _ _ 22 31 rfl (.float .f64 0) 1 8 Tryz.underlying22 (by kernel_rfl) rfl (by decide) w5.heap.size _ _ _ rfl W6.out.2.1 #[fv q2] rfl ?c1 rfl ?c2 ?c3 ?c4 ?_)
       case c1 => first | rfl | (intro u hu; simp [fv] at hu; subst hu; rfl)
       case c2 => have := QL.out; omega
       case c3 => have := QL.out; omega
       case c4 => exact W6.out.2.2.size
       intro v8 w8 hown hg
       obtain ⟨g8, c8, m8, rfl⟩ : ∃ g8 c8 m8, v8 = .slice (some ⟨g8, 0, none⟩) m8 c8 := by
        rcases hown.2 with ⟨-, h⟩ | ⟨g, cap, _, e, _⟩
        ·omega
        ·exact ⟨g, cap, _, e⟩
       have K8 := Lib.hid (BK.grown W6.out.1 hg (own_bk W6.out.2.1 W6.out.1 (by decide)))
       have k8 := K8.out.cell 1
       have f8 := K8.out.frozen 1
       have ho8 : w8.ownsRow w5.heap.size 31 1 (.slice (some ⟨g8, 0, none⟩) m8 c8) (qs ++ [q2]).length ((qs ++ [q2]).map fv) := by rw [List.map_append, List.length_append]; exact hown
       have HE : Hid (BK (w8.setCell ⟨w5.heap.size, 1, none⟩ (.slice (some ⟨g8, 0, none⟩) m8 c8)) w5.heap.size #[.float .f64 q, .slice (some ⟨g8, 0, none⟩) m8 c8] 118 ∧ (w8.setCell ⟨w5.heap.size, 1, none⟩ (.slice (some ⟨g8, 0, none⟩) m8 c8)).ownsRow w5.heap.size 31 1 (.slice (some ⟨g8, 0, none⟩) m8 c8) (qs ++ [q2]).length ((qs ++ [q2]).map fv) ∧ Below w5.heap.size w5 (w8.setCell ⟨w5.heap.size, 1, none⟩ (.slice (some ⟨g8, 0, none⟩) m8 c8))) := Lib.hid ⟨by
         have := K8.out.set 1 (.slice (some ⟨g8, 0, none⟩) m8 c8)
         simpa [List.setIfInBounds_toArray] using this, ho8.kept (grown_setj w8 w5.heap.size 1 _) (.inr (own_bk ho8 K8.out (by decide))), (own_row W6.out.2.1 W6.out.2.2 W6.out.2.2.size hg).setCell (p := ⟨w5.heap.size, 1, none⟩) (Nat.le_refl _) _⟩
       clear hown hg ho8 W6 K8 zf z1
       go_wp2
       go_roundw
       case rel => exact ⟨_, qs ++ [q2], _, by first | rw [kk1.out] | exact kk1'.out, rfl, NEXT, HE⟩
       case measure =>
        first
         | exact meas_next HY.out.2
         | (rw [wrap_next HY.out.2 (by have := NN.out.2; omega)]; exact meas_next HY.out.2)
    ·have hki : ¬ (kk : Int) < (n : Int) := by omega
     have y0 := BZ5.out.below hW.out.2.2
     have y1 := y0.cell 0
     have y2 := y0.cell 1
     have yf := fun j => y0.frozen j
     have BB := Lib.hid y0
     have HE : Hid (qs.length = r.length) := Lib.hid (by have h1 := hQ.out.1; have h2 := HNR.out; omega)
     clear y0 hkk hlt
     cases o
     ·have e1 := Lib.hid (hQ.out.2.2 rfl)
      go_wp2_with fail
      obtain ⟨K1, K2⟩ := set2 BB.out (.float .f64 q) (.slice pa qs.length pc)
      refine res102 rfl rfl rfl K1 ?_
      rw [e1.out]
      exact ⟨⟨_, _, _, _, rfl⟩, K2 _ _ (Nat.le_refl _) (BW5.out.trans (hW.out.2.2.mono BW5.out.size))⟩
     ·have e1 : Hid (R = some (q, qs)) := Lib.hid (by
       obtain ⟨h4, h5⟩ := hQ.out.2.1 rfl
       rw [HE.out, show r.length = (r.map bl).length by rw [List.length_map], List.take_length] at h5
       rw [RE.out, HAR.out, List.map_cons]
       exact ptW_some h4 (by rw [List.length_map]; have h1 := HNR.out; have h2 := NN.out.2; omega) h5)
      go_wp2_with fail
      obtain ⟨K1, K2⟩ := set2 BB.out (.float .f64 q) (.slice pa qs.length pc)
      refine res102 rfl rfl rfl K1 ?_
      rw [e1.out]
      refine ⟨⟨_, rfl, ?_⟩, K2 _ _ (Nat.le_refl _) (BW5.out.trans (hW.out.2.2.mono BW5.out.size))⟩
      have o1 := hW.out.2.1
      have o2 := o1.kept (grown_setj _ w.heap.size 0 (.float .f64 q)) (.inr (own_bk o1 BB.out (by decide)))
      have bb2 := BB.out.set 0 (.float .f64 q)
      have o3 := o2.kept (grown_setj _ w.heap.size 1 (.slice pa qs.length pc)) (.inr (own_bk o2 bb2 (by decide)))
      exact own_base o3 BW5.out.size
end Go.Proofs.YtlgencbldbpbdaaGreatDoor
namespace Go.Proofs.YtlgencbldbpbdaaGreatDoor.R
open Go.RowKit Fl
theorem sub_words {x y c d : Nat} (hx : x < BB) (hy : y < BB) (hc : c ≤ 1) (hd : d = (x + BB - y - c) % BB) : ((-(c : Int) + (x : Int) - (y : Int)) % 4294967296 = (d : Int)) ∧ (-(c : Int) + (x : Int) - (y : Int)) / 4294967296 = -((if x < y + c then 1 else 0 : Nat) : Int) := by
 unfold BB at *
 split <;> omega
theorem u32_int (z : Int) : IntKind.u32.wrap z = z % 4294967296 := rfl
set_option maxRecDepth 100000 in
set_option maxHeartbeats 4000000 in
theorem cLessL {w : World} {v u : Value} {a b : List Nat} (na : NL w v a) (nb : NL w u b) (hla : a.length ≤ 10001) (hlb : b.length ≤ a.length) (hab : val b ≤ val a) :
  Calls Tryz.prog 227 #[v, u] w fun e w' => Below w.heap.size w w' ∧ ∃ v', e = .returned v' ∧ NV w' v' (val a - val b) := by
 have la2 : (a.length : Int) ≤ 10001 := by omega
 have lb2 : (b.length : Int) ≤ 10001 := by omega
 have HW := Lib.hid (And.intro na.1 nb.1)
 have NA1 := Lib.hid na
 have NA2 := Lib.hid nb
 obtain ⟨n, hn⟩ : ∃ n, n = a.length := ⟨_, rfl⟩
 have HN := Lib.hid hn
 have HL := Lib.hid (show n ≤ 10001 by omega)
 have V1 := Lib.hid (sb_val na.1 nb.1 hlb hab)
 rw [← hn] at V1
 have la3 : (a.length : Int) = (n : Int) := by omega
 obtain ⟨A, ac, rfl⟩ := na.form
 obtain ⟨A', bc, rfl⟩ := nb.form
 have em : madeCells #[Value.int .u32 0] 0 = #[] := by unfold madeCells; simp
 have O0 := OU.made w (p := 0) (q := 0) (by omega) (by unfold maxLen; omega) (B := w.heap.size) (Nat.le_refl _)
 rw [em] at O0
 have O0 := Lib.hid O0
 have B0 : Hid (Below w.heap.size w (w.alloc (.cells #[] 47))) := Lib.hid ((Below.refl _ _).alloc (Nat.le_refl _) _)
 clear na nb hla hlb em hn la3
 go_enter Tryz.func227, Tryz.ntmps227
 go_upto_region 2 with fail
 generalize w.alloc (.cells #[] 47) = w1 at *
 generalize (Value.slice (some ⟨w.heap.size, 0, none⟩) 0 0) = v1 at *
 go_wp2_with fail
 go_loopw [5, 6, 7] (fun v c i wx => ∃ k : Nat, k ≤ n ∧ i = .int .i64 k ∧ c = .int .i64 (-((crw (sbF a b) 0 k).2 : Nat)) ∧ Hid (OU wx w.heap.size v (crw (sbF a b) 0 k).1) ∧ Hid (Below w.heap.size w wx)) (fun _ _ i _ => n - (intOf i).toNat)
 case atStart => exact ⟨0, Nat.zero_le _, rfl, rfl, O0, B0⟩
 case round =>
  obtain ⟨k, hk, rfl, rfl, hO, hB⟩ := hrel
  have hkm : (k : Int) ≤ 10001 := by have := HL.out; omega
  by_cases hlt : k < n
  ·have HK : Hid (k + 1 ≤ n) := Lib.hid hlt
   have la : k < a.length := by rw [← HN.out]; exact hlt
   by_cases lb : k < b.length
   ·clear hlt hk
    have hka : (k : Int) < (a.length : Int) := by omega
    obtain ⟨b1, o1, c1, e1, q1, q2, hA⟩ := (NA1.out.below hB.out).addr (by omega)
    cases e1
    obtain ⟨x, hx⟩ : ∃ x, a[k]? = some x := ⟨a[k], List.getElem?_eq_getElem la⟩
    have kx := hA.2 k x hx
    have gx : a.getD k 0 = x := by rw [List.getD, hx]; rfl
    have xb : x < BB := HW.out.1 x (List.mem_of_getElem? hx)
    have xi : (x : Int) ≤ 4294967295 := by unfold BB at xb; omega
    have hkb : (k : Int) < (b.length : Int) := by omega
    obtain ⟨b2, o2, c2, e2, r1, r2, hA'⟩ := (NA2.out.below hB.out).addr (by omega)
    cases e2
    obtain ⟨y, hy⟩ : ∃ y, b[k]? = some y := ⟨b[k], List.getElem?_eq_getElem lb⟩
    have ky := hA'.2 k y hy
    have gy : b.getD k 0 = y := by rw [List.getD, hy]; rfl
    have yb : y < BB := HW.out.2 y (List.mem_of_getElem? hy)
    have yi : (y : Int) ≤ 4294967295 := by unfold BB at yb; omega
    have E1 : Hid ((crw (sbF a b) 0 (k + 1)).1 = (crw (sbF a b) 0 k).1 ++ [(x + BB - y - (crw (sbF a b) 0 k).2) % BB]) := Lib.hid (by rw [crw, sbF, gx, gy])
    have E2 : Hid ((crw (sbF a b) 0 (k + 1)).2 = (if x < y + (crw (sbF a b) 0 k).2 then 1 else 0)) := Lib.hid (by rw [crw, sbF, gx, gy])
    have hcl := sb_carry a b k
    have L1 : Hid ((crw (sbF a b) 0 k).1.length ≤ 1000000) := Lib.hid (by rw [cr_len]; have := HL.out; omega)
    obtain ⟨lo, hlo⟩ : ∃ lo, lo = (crw (sbF a b) 0 k).2 := ⟨_, rfl⟩
    rw [← hlo] at hcl E1 E2 ⊢
    have hci : (lo : Int) ≤ 1 := by omega
    obtain ⟨d, hd⟩ : ∃ d, d = (x + BB - y - lo) % BB := ⟨_, rfl⟩
    obtain ⟨c3, hc3⟩ : ∃ c3, c3 = (if x < y + lo then 1 else 0) := ⟨_, rfl⟩
    have sw := sub_words xb yb hcl hd
    rw [← hc3] at sw
    rw [← hd] at E1
    rw [← hc3] at E2
    have w3 : IntKind.u32.wrap (-(lo : Int) + (x : Int) - (y : Int)) = (d : Int) := by rw [u32_int]; exact sw.1
    have w4 : (-(lo : Int) + (x : Int) - (y : Int)) / 4294967296 = -(c3 : Int) := sw.2
    clear gx gy hcl hlo hd hc3 hx hA q1 q2 xb hy hA' r1 r2 yb la lb sw
    go_wp2_with (at_builtin; refine wpList_app rfl (.tmp 33) (.tmp 36) rfl w.heap.size _ _ _ rfl hO.out rfl L1.out hB.out.size ?_; intro v' w' own' bel' siz'; replace own' := Lib.hid own'; replace bel' := Lib.hid bel'; clear siz')
    go_roundw
    case rel => exact ⟨k + 1, HK.out, by go_num, by rw [E2.out], Lib.hid (by rw [E1.out]; exact own'.out), Lib.hid (bel'.out w (Nat.le_refl _) hB.out)⟩
    case measure => have := HK.out; simp [intOf]; omega
   ·clear hlt hk
    have hka : (k : Int) < (a.length : Int) := by omega
    obtain ⟨b1, o1, c1, e1, q1, q2, hA⟩ := (NA1.out.below hB.out).addr (by omega)
    cases e1
    obtain ⟨x, hx⟩ : ∃ x, a[k]? = some x := ⟨a[k], List.getElem?_eq_getElem la⟩
    have kx := hA.2 k x hx
    have gx : a.getD k 0 = x := by rw [List.getD, hx]; rfl
    have xb : x < BB := HW.out.1 x (List.mem_of_getElem? hx)
    have xi : (x : Int) ≤ 4294967295 := by unfold BB at xb; omega
    have hkb : ¬ (k : Int) < (b.length : Int) := by omega
    have gy : b.getD k 0 = 0 := by rw [List.getD, List.getElem?_eq_none (by omega)]; rfl
    have E1 : Hid ((crw (sbF a b) 0 (k + 1)).1 = (crw (sbF a b) 0 k).1 ++ [(x + BB - 0 - (crw (sbF a b) 0 k).2) % BB]) := Lib.hid (by rw [crw, sbF, gx, gy])
    have E2 : Hid ((crw (sbF a b) 0 (k + 1)).2 = (if x < 0 + (crw (sbF a b) 0 k).2 then 1 else 0)) := Lib.hid (by rw [crw, sbF, gx, gy])
    have hcl := sb_carry a b k
    have L1 : Hid ((crw (sbF a b) 0 k).1.length ≤ 1000000) := Lib.hid (by rw [cr_len]; have := HL.out; omega)
    obtain ⟨lo, hlo⟩ : ∃ lo, lo = (crw (sbF a b) 0 k).2 := ⟨_, rfl⟩
    rw [← hlo] at hcl E1 E2 ⊢
    have hci : (lo : Int) ≤ 1 := by omega
    obtain ⟨d, hd⟩ : ∃ d, d = (x + BB - 0 - lo) % BB := ⟨_, rfl⟩
    obtain ⟨c3, hc3⟩ : ∃ c3, c3 = (if x < 0 + lo then 1 else 0) := ⟨_, rfl⟩
    have sw := sub_words xb BB_pos hcl hd
    rw [← hc3, show ((0 : Nat) : Int) = 0 from rfl, Int.sub_zero] at sw
    rw [← hd] at E1
    rw [← hc3] at E2
    have w3 : IntKind.u32.wrap (-(lo : Int) + (x : Int)) = (d : Int) := by rw [u32_int]; exact sw.1
    have w4 : (-(lo : Int) + (x : Int)) / 4294967296 = -(c3 : Int) := sw.2
    clear gx gy hcl hlo hd hc3 hx hA q1 q2 xb la lb sw
    go_wp2_with (at_builtin; refine wpList_app rfl (.tmp 33) (.tmp 36) rfl w.heap.size _ _ _ rfl hO.out rfl L1.out hB.out.size ?_; intro v' w' own' bel' siz'; replace own' := Lib.hid own'; replace bel' := Lib.hid bel'; clear siz')
    go_roundw
    case rel => exact ⟨k + 1, HK.out, by go_num, by rw [E2.out], Lib.hid (by rw [E1.out]; exact own'.out), Lib.hid (bel'.out w (Nat.le_refl _) hB.out)⟩
    case measure => have := HK.out; simp [intOf]; omega
  ·have hkn : k = n := by omega
   subst hkn
   have hka : ¬ (k : Int) < (a.length : Int) := by have := HN.out; omega
   have W1 : Hid (W64 (crw (sbF a b) 0 k).1) := Lib.hid (cr_w64 (fun k c => Nat.mod_lt _ BB_pos) _)
   clear hlt hk
   go_wp2_with fail
   refine (cTrim (hO.out.nl W1.out)).mono ?_
   rintro e w2 ⟨rfl, v2, rfl, hv2, hg2⟩
   have R2 : Hid (NV wr v2 (val a - val b)) := Lib.hid ⟨_, hv2, tn_can _ (Nat.le_refl _), by rw [tn_val _ (Nat.le_refl _), List.take_length, V1.out]⟩
   clear hv2 hg2
   go_wp2_with fail
   go_ret
   exact ⟨hB.out, _, rfl, R2.out⟩
theorem cLess {w : World} {v u : Value} {x y L : Nat} (hv : NV w v x) (hu : NV w u y) (hL : L ≤ 10000) (hx : x < BB ^ L) (hy : y ≤ x) :
  Calls Tryz.prog 227 #[v, u] w fun e w' => Below w.heap.size w w' ∧ ∃ v', e = .returned v' ∧ NV w' v' (x - y) := by
 obtain ⟨a, na, ca, rfl⟩ := hv
 obtain ⟨b, nb, cb, rfl⟩ := hu
 have h : b.length ≤ a.length := by
  rcases Nat.lt_or_ge a.length b.length with c | c
  ·have := len_lt na.1 cb c; omega
  ·exact c
 exact cLessL na nb (by have := len_small na.1 ca hx; omega) h hy
end Go.Proofs.YtlgencbldbpbdaaGreatDoor.R
namespace Go.Proofs.YtlgencbldbpbdaaGreatDoor.R
open Go.RowKit Fl
theorem cmpR_sign {x y : Nat} {r : Int} (h : CmpR x y r) : (r < 0 ↔ x < y) ∧ (r = 0 ↔ x = y) ∧ (0 < r ↔ y < x) := by
 obtain ⟨a, b, c⟩ := h
 rcases Nat.lt_trichotomy x y with q | q | q
 ·have := a q; omega
 ·have := b q; omega
 ·have := c q; omega
theorem pE_le {b : Nat} (h : b < 9218868437227405312) : pE b ≤ 2045 := by
 unfold pE
 have e52 : (2 : Nat) ^ 52 = 4503599627370496 := by decide
 rw [e52]; omega
set_option maxRecDepth 100000 in
set_option maxHeartbeats 4000000 in
theorem cReads {w : World} {va vb : Value} {x y b : Nat} (hA : AgP w va vb x y) (hy : 0 < y) (h0 : 0 < b) (h1 : b < INF) :
  Calls Tryz.prog 165 #[.agg #[va, vb], .int .u64 b] w fun e w' => e = .returned (.bool (decide (rungM (x * 2 ^ K) y = b))) ∧ Below w.heap.size w w' := by
 have HA := Lib.hid hA
 have S79 := Lib.hid (size79 va vb)
 have N0 : Hid (NR w (w.alloc (.cells #[va, vb] 235)) w.heap.size va vb) := Lib.hid ⟨fun j v hj => by
  match j, hj with
  | 0, hj => simp at hj; subst hj; simp [go_sem]
  | 1, hj => simp at hj; subst hj; simp [go_sem], by simp, (Below.refl _ _).alloc (Nat.le_refl _) _⟩
 obtain ⟨c, rfl⟩ : ∃ c, b = c + 1 := ⟨b - 1, by omega⟩
 have hI : c + 1 < 9218868437227405312 := h1
 obtain ⟨D, hD⟩ : ∃ D, D = decide (rungM (x * 2 ^ K) y = c + 1) := ⟨_, rfl⟩
 rw [← hD]
 have rd := rds_iff (x * 2 ^ K) y (c + 1) hy h0 h1
 unfold rdsP at rd
 rw [Nat.add_sub_cancel] at rd
 have u1 := mid_parts (c + 1)
 have u0 := mid_parts c
 have HD : Hid (D = decide ((2 * (x * 2 ^ K) < (2 * pM (c + 1) + 1) * 2 ^ pE (c + 1) * y ∨ (2 * (x * 2 ^ K) = (2 * pM (c + 1) + 1) * 2 ^ pE (c + 1) * y ∧ (c + 1) % 2 = 0)) ∧ ((2 * pM c + 1) * 2 ^ pE c * y < 2 * (x * 2 ^ K) ∨ ((2 * pM c + 1) * 2 ^ pE c * y = 2 * (x * 2 ^ K) ∧ (c + 1) % 2 = 0)))) := Lib.hid (by
  rw [hD]; refine decide_eq_decide.2 ?_; rw [u1, u0]; exact rd.symm)
 have CP1 := Lib.hid (fun w => cParts (c + 1) w (by omega))
 have CP0 := Lib.hid (fun w => cParts c w (by omega))
 have b1 := pE_le hI
 have b0 := pE_le (show c < 9218868437227405312 by omega)
 have bM1 := pM_lt (c + 1)
 have bM0 := pM_lt c
 have e53 : (2 : Nat) ^ 53 = 9007199254740992 := by decide
 obtain ⟨k1, hk1⟩ : ∃ k1, k1 = (pE (c + 1) : Int) - 1074 := ⟨_, rfl⟩
 obtain ⟨k0, hk0⟩ : ∃ k0, k0 = (pE c : Int) - 1074 := ⟨_, rfl⟩
 obtain ⟨m1, hm1⟩ : ∃ m1, m1 = 2 * pM (c + 1) + 1 := ⟨_, rfl⟩
 obtain ⟨m0, hm0⟩ : ∃ m0, m0 = 2 * pM c + 1 := ⟨_, rfl⟩
 have CA1 := Lib.hid (fun wx (hb : Below w.heap.size w wx) => (hA wx m1 (k1 - 1) hb (by omega) (by omega) (by omega)).mono fun e w' ⟨⟨r, he, hr⟩, hw⟩ => (⟨⟨r, he, cmpR_sign (by have := cmp_half (E := pE (c + 1)) (by omega) hr; rw [hm1] at this; exact this)⟩, hw⟩ : (∃ r, e = Ending.returned (.int .i64 r) ∧ ((r < 0 ↔ 2 * (x * 2 ^ K) < (2 * pM (c + 1) + 1) * 2 ^ pE (c + 1) * y) ∧ (r = 0 ↔ 2 * (x * 2 ^ K) = (2 * pM (c + 1) + 1) * 2 ^ pE (c + 1) * y) ∧ (0 < r ↔ (2 * pM (c + 1) + 1) * 2 ^ pE (c + 1) * y < 2 * (x * 2 ^ K)))) ∧ Below wx.heap.size wx w'))
 have CA0 := Lib.hid (fun wx (hb : Below w.heap.size w wx) => (hA wx m0 (k0 - 1) hb (by omega) (by omega) (by omega)).mono fun e w' ⟨⟨r, he, hr⟩, hw⟩ => (⟨⟨r, he, cmpR_sign (by have := cmp_half (E := pE c) (by omega) hr; rw [hm0] at this; exact this)⟩, hw⟩ : (∃ r, e = Ending.returned (.int .i64 r) ∧ ((r < 0 ↔ 2 * (x * 2 ^ K) < (2 * pM c + 1) * 2 ^ pE c * y) ∧ (r = 0 ↔ 2 * (x * 2 ^ K) = (2 * pM c + 1) * 2 ^ pE c * y) ∧ (0 < r ↔ (2 * pM c + 1) * 2 ^ pE c * y < 2 * (x * 2 ^ K)))) ∧ Below wx.heap.size wx w'))
 rw [← hk1] at CP1
 rw [← hk0] at CP0
 have k1a : -1074 ≤ k1 := by omega
 have k1b : k1 ≤ 971 := by omega
 have k0a : -1074 ≤ k0 := by omega
 have k0b : k0 ≤ 971 := by omega
 have w1m : 2 * ((pM (c + 1) : Nat) : Int) + 1 = (m1 : Int) := by omega
 have w0m : 2 * ((pM c : Nat) : Int) + 1 = (m0 : Int) := by omega
 have bm1 : ((pM (c + 1) : Nat) : Int) ≤ 9007199254740992 := by omega
 have bm0 : ((pM c : Nat) : Int) ≤ 9007199254740992 := by omega
 obtain ⟨bb, hbb⟩ : ∃ bb, bb = c + 1 := ⟨_, rfl⟩
 have bbi : (bb : Int) - 1 = (c : Int) := by omega
 have bb2 : (bb : Int) ≤ 9218868437227405312 := by omega
 have bb3 : (1 : Int) ≤ (bb : Int) := by omega
 rw [← hbb] at CP1 CA1 HD w1m bm1 ⊢
 generalize (2 * pM bb + 1) * 2 ^ pE bb * y = M1 at *
 generalize (2 * pM c + 1) * 2 ^ pE c * y = M0 at *
 generalize 2 * (x * 2 ^ K) = XX at *
 generalize pM bb = n1 at *
 generalize pM c = n0 at *
 clear hA hy h0 h1 hI hD rd u1 u0 b1 b0 bM1 bM0 e53 hk1 hk0 hm1 hm0 hbb
 go_enter Tryz.func165, Tryz.ntmps165
 go_upto_region 1 with fail
 refine wp_gen' (fun wx => Hid (NR w wx w.heap.size va vb)) N0 ?_
 intro w0 hW
 clear N0
 go_upto_region 3 with (first
  | (go_at_call 222; with_reducible refine (CP1.out _).mono ?_; rintro e w' ⟨rfl, rfl⟩)
  | (refine wpList_load_mid rfl 235 (.tmp 2) rfl w.heap.size 0 rfl [va, vb] _ hW.out.r Tryz.underlying235 rfl S79.out ?_)
  | (go_at_call 223; refine (CA1.out _ hW.out.l).mono ?_; rintro e w2 ⟨⟨r, rfl, hr⟩, hb⟩; have HC1 := Lib.hid hr; have hW2 := Lib.hid (hW.out.below hb); clear hr hb))
 clear CA1 CP1 hW
 go_upto_region 5 with (first
  | (go_at_call 222; with_reducible refine (CP0.out _).mono ?_; rintro e w' ⟨rfl, rfl⟩)
  | (refine wpList_load_mid rfl 235 (.tmp 2) rfl w.heap.size 0 rfl [va, vb] _ hW2.out.r Tryz.underlying235 rfl S79.out ?_)
  | (go_at_call 223; refine (CA0.out _ hW2.out.l).mono ?_; rintro e w3 ⟨⟨t, rfl, hr⟩, hb⟩; have HC0 := Lib.hid hr; have hW3 := Lib.hid (hW2.out.below hb); clear hr hb))
 clear CA0 CP0 hW2
 have bm : bb % 2 = 0 ∨ bb % 2 = 1 := by omega
 have E : D = true ↔ ((r < 0 ∨ (r = 0 ∧ bb % 2 = 0)) ∧ (0 < t ∨ (t = 0 ∧ bb % 2 = 0))) := by
  rw [HD.out, decide_eq_true_iff, HC1.out.1, HC1.out.2.1, HC0.out.2.2, HC0.out.2.1, eq_comm (a := M0)]
 clear HD HC1 HC0
 rcases Int.lt_trichotomy r 0 with q1 | q1 | q1 <;> rcases Int.lt_trichotomy t 0 with q2 | q2 | q2 <;> rcases bm with q3 | q3
 all_goals
  have DD : D = true ∨ D = false := by cases D <;> simp
  have E2 : Hid (D = decide ((r < 0 ∨ (r = 0 ∧ bb % 2 = 0)) ∧ (0 < t ∨ (t = 0 ∧ bb % 2 = 0)))) := Lib.hid (by
   rcases DD with d | d
   ·rw [d]; exact (decide_eq_true (E.1 d)).symm
   ·rw [d]; refine (decide_eq_false (fun h => ?_)).symm; rw [E.2 h] at d; cases d)
  clear E DD
  have g1 : (bb : Int) % 2 = ((bb % 2 : Nat) : Int) := by omega
  rw [q3] at g1
  (try have n1 : ¬ r < 0 := by omega)
  (try have n2 : ¬ r = 0 := by omega)
  (try have n3 : ¬ 0 < t := by omega)
  (try have n4 : ¬ t = 0 := by omega)
  (try subst q1)
  (try subst q2)
  (first
   | have E3 : Hid (D = true) := Lib.hid (by rw [E2.out, q3]; exact decide_eq_true (by omega))
   | have E3 : Hid (D = false) := Lib.hid (by rw [E2.out, q3]; exact decide_eq_false (by omega)))
  clear E2 q3
  go_wp2_with fail
  go_ret
  exact ⟨by rw [E3.out]; rfl, hW3.out.l⟩
end Go.Proofs.YtlgencbldbpbdaaGreatDoor.R
namespace Go.Proofs.YtlgencbldbpbdaaGreatDoor.R
open Go.RowKit Fl
theorem or_bit {q i : Nat} (h : 2 ^ (i + 1) ∣ q) : q ||| 2 ^ i = q + 2 ^ i := by
 obtain ⟨c, rfl⟩ := h
 have h1 := Nat.two_pow_add_eq_or_of_lt (show 2 ^ i < 2 ^ (i + 1) from Nat.pow_lt_pow_right (by decide) (Nat.lt_succ_self i)) c
 exact h1.symm
theorem or_shl {q i : Nat} (h : 2 ^ (i + 1) ∣ q) (hi : i ≤ 60) (hq : q < 2305843009213693952) : bits .or .u64 (q : Int) (IntKind.u64.wrap (2 ^ i)) = ((q + 2 ^ i : Nat) : Int) := by
 have h1 : (2 : Nat) ^ i ≤ 2 ^ 60 := Nat.pow_le_pow_right (by decide) hi
 have h60 : (2 : Nat) ^ 60 = 1152921504606846976 := by decide
 have e : IntKind.u64.wrap ((2 : Int) ^ i) = ((2 ^ i : Nat) : Int) := by
  rw [show ((2 : Int) ^ i) = ((2 ^ i : Nat) : Int) from by push_cast; rfl, IntKind.wrap_u64]; omega
 rw [e, u64_or_nat _ _ (by omega) (by omega), or_bit h]
structure RT (w wx : World) (vx vy : Value) (X Y j q x : Nat) : Prop where
 nx : NV wx vx x
 ny : NV wx vy Y
 l : Below w.heap.size w wx
 e : X = q * Y + x
 lt : x < 2 ^ j * Y
 d : 2 ^ j ∣ q
 q61 : q < 2305843009213693952
theorem RT.below {w wx wy : World} {vx vy : Value} {X Y j q x : Nat} (h : RT w wx vx vy X Y j q x) (k : Below wx.heap.size wx wy) : RT w wy vx vy X Y j q x :=
 ⟨h.nx.below k, h.ny.below k, h.l.trans (k.mono h.l.size), h.e, h.lt, h.d, h.q61⟩
theorem RT.skip {w wx : World} {vx vy : Value} {X Y j q x : Nat} (h : RT w wx vx vy X Y (j + 1) q x) (k : x < Y * 2 ^ j) : RT w wx vx vy X Y j q x :=
 ⟨h.nx, h.ny, h.l, h.e, by rw [Nat.mul_comm]; exact k, Nat.dvd_trans ⟨2, by rw [Nat.pow_succ]⟩ h.d, h.q61⟩
theorem RT.take {w wx wy : World} {vx vy v' : Value} {X Y j q x : Nat} (h : RT w wx vx vy X Y (j + 1) q x) (k : Y * 2 ^ j ≤ x) (hb : Below wx.heap.size wx wy) (hv : NV wy v' (x - Y * 2 ^ j)) (hq : X < 2305843009213693952 * Y) : RT w wy v' vy X Y j (q + 2 ^ j) (x - Y * 2 ^ j) := by
 have e : X = (q + 2 ^ j) * Y + (x - Y * 2 ^ j) := by
  have := h.e
  rw [Nat.add_mul, Nat.mul_comm (2 ^ j)]
  omega
 refine ⟨hv, h.ny.below hb, h.l.trans (hb.mono h.l.size), e, ?_, ?_, ?_⟩
 ·have := h.lt
  rw [Nat.pow_succ, Nat.mul_comm _ 2, Nat.mul_assoc, Nat.mul_comm _ Y] at this
  rw [Nat.mul_comm _ Y]
  omega
 ·exact Nat.dvd_add (Nat.dvd_trans ⟨2, by rw [Nat.pow_succ]⟩ h.d) (Nat.dvd_refl _)
 ·have h1 : (q + 2 ^ j) * Y < 2305843009213693952 * Y := by omega
  exact Nat.lt_of_mul_lt_mul_right h1
theorem lt_pow32 {x a L : Nat} (h : x < 2 ^ a) (ha : a ≤ 32 * L) : x < BB ^ L := by
 rw [BB_pow]; exact Nat.lt_of_lt_of_le h (Nat.pow_le_pow_right (by decide) ha)
theorem ten_two (n : Nat) : 10 ^ n ≤ 2 ^ (4 * n) := by
 rw [Nat.pow_mul]; exact Nat.pow_le_pow_left (by decide) n
set_option maxRecDepth 100000 in
set_option maxHeartbeats 4000000 in
theorem cRatio {b : Nat} {s : Int} (w : World) (h1 : b < INF) (s1 : -400 ≤ s) (s2 : s ≤ 400) {X Y : Nat} (hX : X = pM b * 2 ^ ((pE b : Int) - 1074).toNat * 10 ^ (-s).toNat) (hY : Y = 2 ^ (-((pE b : Int) - 1074)).toNat * 10 ^ s.toNat) (hq : X < 2305843009213693952 * Y) :
  Calls Tryz.prog 162 #[.int .u64 b, .int .i64 s] w fun e w' => (∃ r, e = .returned (.tuple #[.int .u64 (X / Y : Nat), .int .i64 r]) ∧ CmpR (2 * (X % Y)) Y r) ∧ Below w.heap.size w w' := by
 have hI : b < 9218868437227405312 := h1
 have CP := Lib.hid (fun w => cParts b w (by omega))
 have b1 := pE_le hI
 have bM := pM_lt b
 have e53 : (2 : Nat) ^ 53 = 9007199254740992 := by decide
 have BM : Hid (pM b < 2 ^ 53) := Lib.hid bM
 obtain ⟨k, hk⟩ : ∃ k, k = (pE b : Int) - 1074 := ⟨_, rfl⟩
 rw [← hk] at hX hY CP
 have k1a : -1074 ≤ k := by omega
 have k1b : k ≤ 971 := by omega
 have bmi : ((pM b : Nat) : Int) ≤ 9007199254740992 := by omega
 have CO1 : Hid (∀ w : World, Calls Tryz.prog 164 #[.int .u64 1] w fun e w' => Below w.heap.size w w' ∧ ∃ v', e = .returned v' ∧ NV w' v' 1 ∧ ∀ g, blk v' = some g → w.heap.size ≤ g) := Lib.hid (fun w => cOf 1 w (by decide))
 have CO := Lib.hid (fun w => cOf (pM b) w (by omega))
 obtain ⟨X1, hX1⟩ : ∃ X1, X1 = pM b * 2 ^ k.toNat := ⟨_, rfl⟩
 obtain ⟨Y1, hY1⟩ : ∃ Y1, Y1 = 2 ^ (-k).toNat := ⟨_, rfl⟩
 rw [← hX1] at hX
 rw [← hY1] at hY
 obtain ⟨a1, ha1⟩ : ∃ a1 : Nat, a1 = 1075 := ⟨_, rfl⟩
 obtain ⟨a2, ha2⟩ : ∃ a2 : Nat, a2 = 1600 := ⟨_, rfl⟩
 have z1 : X1 < 2 ^ a1 := by
  rw [hX1]
  obtain ⟨n, hn⟩ : ∃ n : Nat, n = 1022 := ⟨_, rfl⟩
  obtain ⟨m, hm⟩ : ∃ m : Nat, m = 53 := ⟨_, rfl⟩
  rw [show a1 = m + n by omega, Nat.pow_add]
  rw [← hm] at bM
  exact Nat.mul_lt_mul_of_lt_of_le bM (Nat.pow_le_pow_right (by decide) (by omega)) (Nat.two_pow_pos _)
 have z2 : Y1 < 2 ^ a1 := by
  rw [hY1]
  exact Nat.pow_lt_pow_right (by decide) (by omega)
 have zt : ∀ (x n : Nat), x < 2 ^ a1 → n ≤ 400 → x * 10 ^ n < 2 ^ (a1 + a2) := fun x n h1 h2 => by
  rw [Nat.pow_add]
  exact Nat.mul_lt_mul_of_lt_of_le h1 (Nat.le_trans (ten_two n) (Nat.pow_le_pow_right (by decide) (by omega))) (Nat.two_pow_pos _)
 have zX : X < 2 ^ (a1 + a2) := by rw [hX]; exact zt _ _ z1 (by omega)
 have zY : Y < 2 ^ (a1 + a2) := by rw [hY]; exact zt _ _ z2 (by omega)
 have y0 : 0 < Y := by rw [hY, hY1]; exact Nat.mul_pos (Nat.two_pow_pos _) (Nat.pow_pos (by decide))
 have LX : Hid (X < BB ^ 100 ∧ Y < BB ^ 100 ∧ X1 < BB ^ 100 ∧ Y1 < BB ^ 100) := Lib.hid ⟨lt_pow32 zX (by omega), lt_pow32 zY (by omega), lt_pow32 z1 (by omega), lt_pow32 z2 (by omega)⟩
 have LT : Hid (∀ i, i ≤ 60 → Y * 2 ^ i < BB ^ 100) := Lib.hid (fun i hi => by
  obtain ⟨a3, ha3⟩ : ∃ a3 : Nat, a3 = 60 := ⟨_, rfl⟩
  refine lt_pow32 (a := a1 + a2 + a3) ?_ (by omega)
  rw [Nat.pow_add]
  exact Nat.mul_lt_mul_of_lt_of_le zY (Nat.pow_le_pow_right (by decide) (by omega)) (Nat.two_pow_pos _))
 have EX1 := Lib.hid hX1
 have EY1 := Lib.hid hY1
 have EX := Lib.hid hX
 have EY := Lib.hid hY
 have HQ := Lib.hid hq
 have Y0 := Lib.hid y0
 generalize pM b = m at *
 clear hk hX hY hX1 hY1 z1 z2 zt zX zY ha1 ha2 y0 e53 bM b1 hI h1 hq
 go_enter Tryz.func162, Tryz.ntmps162
 go_upto_region 4 with (first
  | (go_at_call 222; refine (CP.out _).mono ?_; rintro e w' ⟨rfl, rfl⟩)
  | (go_at_call 164; with_reducible refine (CO.out _).mono ?_; rintro e w2 ⟨hb, vx, rfl, hvx, -⟩; have J := Lib.hid hb; have KX := Lib.hid hvx; clear hb hvx)
  | (go_at_call 164; with_reducible refine (CO1.out _).mono ?_; rintro e w3 ⟨hb, vy, rfl, hvy, -⟩; have J2 := Lib.hid (J.out.trans (hb.mono J.out.size)); have KX2 := Lib.hid (KX.out.below hb); have KY := Lib.hid hvy; clear hb hvy))
 clear KX J CO CO1 CP
 go_upto_if 22 with fail
 go_cut [8, 9] (fun a c wx => Hid (NV wx a X1 ∧ NV wx c Y1 ∧ Below w.heap.size w wx))
 case first =>
  by_cases hk0 : 0 ≤ k
  ·obtain ⟨n, rfl⟩ : ∃ n : Nat, k = (n : Int) := ⟨k.toNat, by omega⟩
   have ex : X1 = m * 2 ^ n := by rw [EX1.out, show ((n : Int)).toNat = n by omega]
   have ey : Y1 = 1 := by rw [EY1.out, show (-(n : Int)).toNat = 0 by omega, Nat.pow_zero]
   have CT := Lib.hid (cTwos KX2.out (L := 100) (n := n) (by decide) (by rw [← ex]; exact LX.out.2.2.1) (by omega))
   rw [← ex] at CT
   have EY2 := Lib.hid ey
   clear ex ey
   go_wp2_with (go_at_call 224; refine CT.out.mono ?_; rintro e w4 ⟨hb, v4, rfl, hv4⟩; have R4 := Lib.hid (And.intro hv4 (And.intro (KY.out.below hb) (J2.out.trans (hb.mono J2.out.size)))); clear hb hv4)
   go_meet
   exact Lib.hid ⟨R4.out.1, by rw [EY2.out]; exact R4.out.2.1, R4.out.2.2⟩
  ·obtain ⟨n, rfl⟩ : ∃ n : Nat, k = -(n : Int) := ⟨(-k).toNat, by omega⟩
   have ex : X1 = m := by rw [EX1.out, show (-(n : Int)).toNat = 0 by omega, Nat.pow_zero, Nat.mul_one]
   have ey : Y1 = 1 * 2 ^ n := by rw [EY1.out, show (- -(n : Int)).toNat = n by omega, Nat.one_mul]
   have CT := Lib.hid (cTwos KY.out (L := 100) (n := n) (by decide) (by rw [← ey]; exact LX.out.2.2.2) (by omega))
   rw [← ey] at CT
   have n2 : IntKind.i64.wrap (- -(n : Int)) = (n : Int) := by rw [Int.neg_neg]; exact IntWalk.i64_in _ (by omega)
   have n3 : (n : Int) ≤ 1074 := by omega
   have EX2 := Lib.hid ex
   clear ex ey
   go_wp2_with (go_at_call 224; (try rw [n2]); refine CT.out.mono ?_; rintro e w4 ⟨hb, v4, rfl, hv4⟩; have R4 := Lib.hid (And.intro hv4 (And.intro (KX2.out.below hb) (J2.out.trans (hb.mono J2.out.size)))); clear hb hv4)
   go_meet
   exact Lib.hid ⟨by rw [EX2.out]; exact R4.out.2.1, R4.out.1, R4.out.2.2⟩
 case rest =>
  clear KX2 KY J2
  go_upto_if 31 with fail
  go_cut [8, 9] (fun a c wx => Hid (NV wx a X ∧ NV wx c Y ∧ Below w.heap.size w wx))
  case first =>
   by_cases hs0 : 0 ≤ s
   ·obtain ⟨n, rfl⟩ : ∃ n : Nat, s = (n : Int) := ⟨s.toNat, by omega⟩
    have ex : X = X1 := by rw [EX.out, show (-(n : Int)).toNat = 0 by omega, Nat.pow_zero, Nat.mul_one]
    have ey : Y = Y1 * 10 ^ n := by rw [EY.out, show ((n : Int)).toNat = n by omega]
    have CT := Lib.hid (cTens hcut.out.2.1 (L := 100) (n := n) (by decide) (by rw [← ey]; exact LX.out.2.1) (by omega))
    rw [← ey] at CT
    have EX2 := Lib.hid ex
    clear ex ey
    go_wp2_with (go_at_call 225; refine CT.out.mono ?_; rintro e w4 ⟨hb, v4, rfl, hv4⟩; have R4 := Lib.hid (And.intro hv4 (And.intro (hcut.out.1.below hb) (hcut.out.2.2.trans (hb.mono hcut.out.2.2.size)))); clear hb hv4)
    go_meet
    exact Lib.hid ⟨by rw [EX2.out]; exact R4.out.2.1, R4.out.1, R4.out.2.2⟩
   ·obtain ⟨n, rfl⟩ : ∃ n : Nat, s = -(n : Int) := ⟨(-s).toNat, by omega⟩
    have ex : X = X1 * 10 ^ n := by rw [EX.out, show (- -(n : Int)).toNat = n by omega]
    have ey : Y = Y1 := by rw [EY.out, show (-(n : Int)).toNat = 0 by omega, Nat.pow_zero, Nat.mul_one]
    have CT := Lib.hid (cTens hcut.out.1 (L := 100) (n := n) (by decide) (by rw [← ex]; exact LX.out.1) (by omega))
    rw [← ex] at CT
    have n2 : IntKind.i64.wrap (- -(n : Int)) = (n : Int) := by rw [Int.neg_neg]; exact IntWalk.i64_in _ (by omega)
    have n3 : (n : Int) ≤ 400 := by omega
    have EY2 := Lib.hid ey
    clear ex ey
    go_wp2_with (go_at_call 225; (try rw [n2]); refine CT.out.mono ?_; rintro e w4 ⟨hb, v4, rfl, hv4⟩; have R4 := Lib.hid (And.intro hv4 (And.intro (hcut.out.2.1.below hb) (hcut.out.2.2.trans (hb.mono hcut.out.2.2.size)))); clear hb hv4)
    go_meet
    exact Lib.hid ⟨R4.out.1, by rw [EY2.out]; exact R4.out.2.1, R4.out.2.2⟩
  case rest =>
   clear EX EY EX1 EY1
   have R0 : Hid (RT w wc u8 u9 X Y 61 0 X) := Lib.hid ⟨hcut.out.1, hcut.out.2.1, hcut.out.2.2, by omega, HQ.out, Nat.dvd_zero _, by decide⟩
   clear hcut
   go_wp2_with fail
   go_loopw [8, 10, 11] (fun v q i wx => ∃ (j qq x : Nat), j ≤ 61 ∧ i = .int .i64 ((j : Int) - 1) ∧ q = .int .u64 (qq : Nat) ∧ Hid (RT w wx v u9 X Y j qq x)) (fun _ _ i _ => (intOf i + 1).toNat)
   case atStart => exact ⟨61, 0, X, Nat.le_refl _, rfl, rfl, R0⟩
   case round =>
    obtain ⟨j, q, x, hj, rfl, rfl, hR⟩ := hrel
    clear R0
    by_cases h0 : 0 < j
    ·obtain ⟨i, rfl⟩ : ∃ i, j = i + 1 := ⟨j - 1, by omega⟩
     have ei : (((i + 1 : Nat) : Int) - 1) = (i : Int) := by omega
     rw [ei]
     clear ei
     have i1 : (0 : Int) ≤ (i : Int) := by omega
     have i2 : (i : Int) ≤ 60 := by omega
     have HI : Hid (i ≤ 60) := Lib.hid (by omega)
     have LTi := Lib.hid (LT.out i HI.out)
     have CT := Lib.hid (fun (wx : World) v (h : NV wx v Y) => cTwos h (n := i) (L := 100) (by decide) LTi.out (by have := HI.out; omega))
     have xlt : Hid (x < BB ^ 100) := Lib.hid (by
      have h1 := hR.out.e
      have h2 := LX.out.1
      omega)
     have CC := Lib.hid (fun (wx : World) v u (h1 : NV wx v x) (h2 : NV wx u (Y * 2 ^ i)) => cCmp h1 h2 (L := 100) (by decide) xlt.out LTi.out)
     by_cases hge : Y * 2 ^ i ≤ x
     ·have CL := Lib.hid (fun (wx : World) v u (h1 : NV wx v x) (h2 : NV wx u (Y * 2 ^ i)) => cLess h1 h2 (L := 100) (by decide) xlt.out hge)
      have HGE := Lib.hid hge
      have hmin : min i 64 = i := by omega
      have e2 := or_shl hR.out.d HI.out hR.out.q61
      clear hge h0 hj
      go_wp2_with (first
       | (go_at_call 224; refine (CT.out _ _ hR.out.ny).mono ?_; rintro e w4 ⟨hb, v4, rfl, hv4⟩; have R4 := Lib.hid (hR.out.below hb); have T4 := Lib.hid hv4; clear hb hv4)
       | (go_at_call 226; refine (CC.out _ _ _ R4.out.nx T4.out).mono ?_; rintro e w5 ⟨⟨r, rfl, hr⟩, n, rfl⟩; have g0 : (0 : Int) ≤ r := (by have := cmpR_sign hr; have := HGE.out; omega); have R5 := Lib.hid (R4.out.below (BdN (Below.refl _ _) n)); have T5 := Lib.hid (T4.out.drew n); clear hr)
       | (go_at_call 227; refine (CL.out _ _ _ R5.out.nx T5.out).mono ?_; rintro e w6 ⟨hb, v6, rfl, hv6⟩; have R6 := Lib.hid (R5.out.take HGE.out hb hv6 HQ.out); clear hb hv6))
      go_roundw
      case rel => exact ⟨i, q + 2 ^ i, _, by have := HI.out; omega, rfl, rfl, R6⟩
      case measure => simp [intOf] <;> omega
     ·have HGE := Lib.hid (Nat.lt_of_not_le hge)
      clear hge h0 hj
      go_wp2_with (first
       | (go_at_call 224; refine (CT.out _ _ hR.out.ny).mono ?_; rintro e w4 ⟨hb, v4, rfl, hv4⟩; have R4 := Lib.hid (hR.out.below hb); have T4 := Lib.hid hv4; clear hb hv4)
       | (go_at_call 226; refine (CC.out _ _ _ R4.out.nx T4.out).mono ?_; rintro e w5 ⟨⟨r, rfl, hr⟩, n, rfl⟩; have g0 : ¬ (0 : Int) ≤ r := (by have := cmpR_sign hr; have := HGE.out; omega); have R5 := Lib.hid (R4.out.below (BdN (Below.refl _ _) n)); clear hr))
      go_roundw
      case rel => exact ⟨i, q, _, by have := HI.out; omega, rfl, rfl, Lib.hid (R5.out.skip HGE.out)⟩
      case measure => simp [intOf] <;> omega
    ·obtain rfl : j = 0 := by omega
     have hx : x < Y := by have := hR.out.lt; rwa [Nat.pow_zero, Nat.one_mul] at this
     have hd : X / Y = q ∧ X % Y = x := by
      have e := hR.out.e
      rw [Nat.mul_comm] at e
      constructor
      ·rw [e, Nat.mul_add_div (by omega), Nat.div_eq_of_lt hx, Nat.add_zero]
      ·rw [e, Nat.mul_add_mod, Nat.mod_eq_of_lt hx]
     have HD := Lib.hid hd
     have xlt : Hid (x < BB ^ 100) := Lib.hid (by have := LX.out.2.1; omega)
     have xlt2 : Hid (x * 2 + 0 < BB ^ 101) := Lib.hid (by
      have h1 := xlt.out
      have e : BB ^ 101 = BB ^ 100 * BB := Nat.pow_succ ..
      rw [e]
      have h2 : BB ^ 100 * 2 ≤ BB ^ 100 * BB := Nat.mul_le_mul_left _ (by decide)
      omega)
     have ylt2 : Hid (Y < BB ^ 101) := Lib.hid (Nat.lt_of_lt_of_le LX.out.2.1 (Nat.pow_le_pow_right BB_pos (by decide)))
     have CM : Hid (∀ (wx : World) v, NV wx v x → Calls Tryz.prog 228 #[v, .int .u32 2, .int .u32 0] wx fun e w' => Below wx.heap.size wx w' ∧ ∃ v', e = .returned v' ∧ NV w' v' (x * 2 + 0) ∧ ∀ g, blk v' = some g → wx.heap.size ≤ g) := Lib.hid (fun wx v h => cTimes h (L := 100) (m := 2) (c := 0) (by decide) xlt.out (by decide) (by decide))
     have CC := Lib.hid (fun (wx : World) v u (h1 : NV wx v (x * 2 + 0)) (h2 : NV wx u Y) => cCmp h1 h2 (L := 101) (by decide) xlt2.out ylt2.out)
     have i1 : ¬ (0 : Int) ≤ ((0 : Nat) : Int) - 1 := by omega
     clear hd hx h0 hj
     go_wp2_with (first
      | (go_at_call 228; refine (CM.out _ _ hR.out.nx).mono ?_; rintro e w4 ⟨hb, v4, rfl, hv4, -⟩; have R4 := Lib.hid (hR.out.below hb); have T4 := Lib.hid hv4; clear hb hv4)
      | (go_at_call 226; refine (CC.out _ _ _ T4.out R4.out.ny).mono ?_; rintro e w5 ⟨⟨r, rfl, hr⟩, n, rfl⟩; have HR := Lib.hid hr; have R5 := Lib.hid (R4.out.below (BdN (Below.refl _ _) n)); clear hr))
     go_ret2
     exact ⟨⟨r, by rw [HD.out.1]; rfl, by rw [HD.out.2, Nat.mul_comm]; exact HR.out⟩, R5.out.l⟩
end Go.Proofs.YtlgencbldbpbdaaGreatDoor.R
namespace Go.Proofs.YtlgencbldbpbdaaGreatDoor.R
open Go.RowKit Fl
theorem cValue {w : World} {v : Value} {x L : Nat} {e : Int} (hv : NV w v x) (hL : L ≤ 9000) (h1 : x * 10 ^ e.toNat < BB ^ L) (h2 : 10 ^ (-e).toNat < BB ^ L) (e1 : -1000 ≤ e) (e2 : e ≤ 1000) :
  Calls Tryz.prog 163 #[v, .int .i64 e] w fun x' w' => Below w.heap.size w w' ∧ ∃ va vb, x' = .returned (.agg #[va, vb]) ∧ NV w' va (x * 10 ^ e.toNat) ∧ NV w' vb (10 ^ (-e).toNat) := by
 rcases Int.lt_or_le e 0 with c | c
 ·obtain ⟨n, rfl⟩ : ∃ n : Nat, e = -(n : Int) := ⟨(-e).toNat, by omega⟩
  rw [show (- -(n : Int)).toNat = n by omega] at h2 ⊢
  rw [show (-(n : Int)).toNat = 0 by omega, Nat.pow_zero, Nat.mul_one] at h1 ⊢
  exact cValueN hv hL h2 (by omega) (by omega)
 ·obtain ⟨n, rfl⟩ : ∃ n : Nat, e = (n : Int) := ⟨e.toNat, by omega⟩
  rw [show ((n : Int)).toNat = n by omega] at h1 ⊢
  rw [show (-(n : Int)).toNat = 0 by omega, Nat.pow_zero] at h2 ⊢
  exact cValueP hv hL h1 (by omega)
def p0F (t : Nat) : Int := 3 + Int.tdiv (((t : Int) - 1074) * 30103) 100000
theorem p0_fin : ∀ t : Fin 2101, 2 ^ t.val * 10 ^ (-(p0F t.val)).toNat ≤ 10 ^ (p0F t.val).toNat * TK := by decide +kernel
theorem p0_bd : ∀ t : Fin 2101, -397 ≤ p0F t.val ∧ p0F t.val ≤ 400 := by decide +kernel
theorem p0_high {v t : Nat} (ht : t ≤ 2100) (hv : v < 2 ^ t) : le10 (p0F t) v = false := by
 have h := p0_fin ⟨t, by omega⟩
 have h' : 2 ^ t * 10 ^ (-(p0F t)).toNat ≤ 10 ^ (p0F t).toNat * TK := h
 rcases hb : le10 (p0F t) v with _ | _
 ·rfl
 ·exfalso
  have h2 := (le10_iff (p := p0F t) (v := v) (p0F t).toNat (-(p0F t)).toNat (by omega)).1 hb
  have h3 : v * 10 ^ (-(p0F t)).toNat < 2 ^ t * 10 ^ (-(p0F t)).toNat := Nat.mul_lt_mul_of_pos_right hv (ten_pos _)
  omega
theorem le10_cmp {e : Int} {v : Nat} : le10 e v = false ↔ v * 10 ^ (-e).toNat < 10 ^ e.toNat * 2 ^ K := by
 unfold le10
 rw [decide_eq_false_iff_not]
 show ¬ 10 ^ e.toNat * 2 ^ K ≤ _ ↔ _
 omega
theorem blen_half (x : Nat) (h : 0 < x) : blen x = blen (x / 2) + 1 := by
 by_cases h1 : x = 1
 ·subst h1; decide
 ·have h2 : 0 < x / 2 := by omega
  have a1 := blen_pos x h
  have a2 := blen_pos (x / 2) h2
  rw [Nat.log2_def x, if_pos (by omega)] at a1
  omega
set_option maxRecDepth 100000 in
set_option maxHeartbeats 4000000 in
theorem cPlace {b : Nat} (w : World) (h0 : 0 < b) (h1 : b < INF) :
  Calls Tryz.prog 161 #[.int .u64 b] w fun e w' => e = .returned (.int .i64 (placeF (V b))) ∧ Below w.heap.size w w' := by
 have hI : b < 9218868437227405312 := h1
 have CP := Lib.hid (fun w => cParts b w (by omega))
 have b1 := pE_le hI
 have bM := pM_lt b
 have v0 : 0 < V b := by have := V_lt h0; omega
 have vI : V b ≤ V INF := V_le (Nat.le_of_lt h1)
 have hp := place_is v0 vI
 have hr := hp.range v0 vI
 have vv : V b = pM b * 2 ^ pE b := val_parts b
 have CO1 : Hid (∀ w : World, Calls Tryz.prog 164 #[.int .u64 1] w fun e w' => Below w.heap.size w w' ∧ ∃ v', e = .returned v' ∧ NV w' v' 1 ∧ ∀ g, blk v' = some g → w.heap.size ≤ g) := Lib.hid (fun w => cOf 1 w (by decide))
 obtain ⟨m, hm⟩ : ∃ m, m = pM b := ⟨_, rfl⟩
 obtain ⟨E, hE⟩ : ∃ E, E = pE b := ⟨_, rfl⟩
 rw [← hm, ← hE] at CP vv
 rw [← hm] at bM
 rw [← hE] at b1
 generalize hv : V b = v at *
 have m0 : 0 < m := by
  rcases Nat.eq_zero_or_pos m with c | c
  ·rw [c, Nat.zero_mul] at vv; omega
  ·exact c
 have e53 : (2 : Nat) ^ 53 = 9007199254740992 := by decide
 have mlt := lt_blen m
 have bl53 : blen m ≤ 53 := by
  have hbp := blen_pos m m0
  have := (Nat.log2_lt (by omega : m ≠ 0) (k := 53)).2 bM
  omega
 obtain ⟨t, ht⟩ : ∃ t, t = E + blen m := ⟨_, rfl⟩
 have hvt : v < 2 ^ t := by
  rw [vv, ht, Nat.add_comm, Nat.pow_add]
  exact Nat.mul_lt_mul_of_pos_right mlt (Nat.two_pow_pos _)
 have hh := p0_high (t := t) (by omega) hvt
 have HH := Lib.hid hh
 have HP := Lib.hid hp
 have HV := Lib.hid vv
 obtain ⟨pp, hpp⟩ : ∃ pp, pp = placeF v := ⟨_, rfl⟩
 rw [← hpp] at HP hr ⊢
 have HT := Lib.hid ht
 have HB := Lib.hid bl53
 have EB := Lib.hid b1
 have mi : (m : Int) ≤ 9007199254740992 := by omega
 have Ei : (E : Int) ≤ 2045 := by omega
 obtain ⟨hr1, hr2⟩ := hr
 have AG : Hid (∀ (wx : World) (va vb : Value) (e : Int), -400 ≤ e → e ≤ 400 → NV wx va (1 * 10 ^ e.toNat) → NV wx vb (10 ^ (-e).toNat) → Calls Tryz.prog 223 #[.agg #[va, vb], .int .u64 m, .int .i64 ((E : Int) - 1074)] wx fun x w' => (∃ r, x = .returned (.int .i64 r) ∧ (0 < r ↔ le10 e v = false)) ∧ Below wx.heap.size wx w') := Lib.hid (fun wx va vb e e1 e2 ka kb => by
  have hz : ∀ n : Nat, n ≤ 400 → 10 ^ n < BB ^ 60 := fun n hn => lt_pow32 (a := 4 * n + 1) (Nat.lt_of_le_of_lt (ten_two n) (Nat.pow_lt_pow_right (by decide) (by omega))) (by omega)
  have h := agP ka kb (L := 60) (by decide) (by rw [Nat.one_mul]; exact hz _ (by omega)) (hz _ (by omega))
  refine (h wx m ((E : Int) - 1074) (Below.refl _ _) (by omega) (by omega) (by omega)).mono ?_
  rintro x w' ⟨⟨r, hx, hc⟩, hb⟩
  refine ⟨⟨r, hx, ?_⟩, hb⟩
  have hc2 := (cmpR_sign (cmp_rung (E := E) rfl hc)).2.2
  rw [hc2, Nat.one_mul, ← HV.out, le10_cmp])
 have CV := Lib.hid (fun (wx : World) (u : Value) (e : Int) (k : NV wx u 1) (e1 : -400 ≤ e) (e2 : e ≤ 400) => by
  have hz : ∀ n : Nat, n ≤ 400 → 10 ^ n < BB ^ 60 := fun n hn => lt_pow32 (a := 4 * n + 1) (Nat.lt_of_le_of_lt (ten_two n) (Nat.pow_lt_pow_right (by decide) (by omega))) (by omega)
  exact cValue k (L := 60) (e := e) (by decide) (by rw [Nat.one_mul]; exact hz _ (by omega)) (hz _ (by omega)) (by omega) (by omega))
 clear hm hE hv b1 bM h0 h1 hI v0 vI hp vv e53 mlt bl53 ht hvt hh hpp
 go_enter Tryz.func161, Tryz.ntmps161
 go_upto_block 0 with (go_at_call 222; refine (CP.out _).mono ?_; rintro e w' ⟨rfl, rfl⟩)
 go_cut [5] (fun u wx => u = .int .i64 ((t : Int) - 1074) ∧ wx = w)
 case first =>
  go_wp2_with fail
  go_loopw [5, 6] (fun u x wx => ∃ (c z : Nat), u = .int .i64 ((E : Int) + (c : Int) - 1074) ∧ x = .int .u64 (z : Nat) ∧ Hid (c + blen z = blen m ∧ z ≤ m) ∧ wx = w) (fun _ x _ => (intOf x).toNat)
  case atStart => exact ⟨0, m, by simp, rfl, Lib.hid ⟨Nat.zero_add _, Nat.le_refl _⟩, rfl⟩
  case round =>
   obtain ⟨c, z, rfl, rfl, hI, rfl⟩ := hrel
   have zi : (z : Int) ≤ 9007199254740992 := by have := hI.out.2; omega
   have ci : (c : Int) ≤ 53 := by have := hI.out.1; have := HB.out; omega
   by_cases hz : 0 < z
   ·have hzi : (0 : Int) < (z : Int) := by omega
    have E1 : Hid (c + 1 + blen (z / 2) = blen m ∧ z / 2 ≤ m) := Lib.hid ⟨by have := blen_half z hz; have := hI.out.1; omega, by have := hI.out.2; omega⟩
    obtain ⟨y, hy⟩ : ∃ y, y = z / 2 := ⟨_, rfl⟩
    rw [← hy] at E1
    have zy : (z : Int) / 2 = (y : Int) := by omega
    have yz : Hid (y < z) := Lib.hid (by omega)
    clear hy hz
    go_wp2_with fail
    go_roundw
    case rel => exact ⟨c + 1, y, by go_num, rfl, E1, trivial⟩
    case measure => have := yz.out; simp [intOf] <;> omega
   ·have hzi : ¬ (0 : Int) < (z : Int) := by omega
    have E2 : Hid ((E : Int) + (c : Int) - 1074 = (t : Int) - 1074) := Lib.hid (by
     have h1 := hI.out.1
     have h2 : z = 0 := by omega
     subst h2
     have h3 : blen 0 = 0 := rfl
     have := HT.out
     omega)
    clear hz
    go_wp2_with fail
    go_meet
    exact ⟨by rw [E2.out], rfl⟩
 case rest =>
  obtain ⟨rfl, rfl⟩ := hcut
  have ti : (t : Int) ≤ 2098 := by have := HT.out; have := HB.out; have := EB.out; omega
  obtain ⟨q0, hq0⟩ : ∃ q0, q0 = Int.tdiv (((t : Int) - 1074) * 30103) 100000 := ⟨_, rfl⟩
  have hq4 : p0F t = 3 + q0 := by rw [hq0]; rfl
  have hq5 := p0_bd ⟨t, by omega⟩
  have hq6 : -397 ≤ p0F t ∧ p0F t ≤ 400 := hq5
  have q1 : q0 ≤ 397 := by omega
  have q2 : -400 ≤ q0 := by omega
  have S0 : Hid (le10 (3 + q0) v = false) := Lib.hid (by rw [← hq4]; exact HH.out)
  clear hq4 hq5 hq6
  have hq3 : (((t : Int) - 1074) * 30103).tdiv 100000 = q0 := hq0.symm
  clear hq0
  go_wp2_with fail
  go_loopw [7] (fun u wx => ∃ p : Int, u = .int .i64 p ∧ p ≤ 400 ∧ Hid (le10 p v = false) ∧ Hid (Below wc.heap.size wc wx)) (fun u _ => (intOf u + 400).toNat)
  case atStart => exact ⟨3 + q0, rfl, by omega, S0, Lib.hid (Below.refl _ _)⟩
  case round =>
   obtain ⟨p, rfl, p2, hL, hB⟩ := hrel
   have p1 : pp ≤ p := by
    rcases Int.lt_or_le p pp with c | c
    ·have := le10_anti (show p ≤ pp - 1 by omega) HP.out.1
     rw [hL.out] at this; cases this
    ·exact c
   rcases hb : le10 (p - 1) v with _ | _
   ·have HBF := Lib.hid hb
    clear hb
    go_wp2_with (first
     | (go_at_call 164; refine (CO1.out _).mono ?_; rintro e w2 ⟨hb, v1, rfl, hv1, -⟩; have B2 := Lib.hid (hB.out.trans (hb.mono hB.out.size)); have K1 := Lib.hid hv1; clear hb hv1)
     | (go_at_call 163; refine (CV.out _ _ (p - 1) K1.out (by omega) (by omega)).mono ?_; rintro e w3 ⟨hb, va, vb, rfl, hva, hvb⟩; have B3 := Lib.hid (B2.out.trans (hb.mono B2.out.size)); have KA := Lib.hid (And.intro hva hvb); clear hb hva hvb)
     | (go_at_call 223; refine (AG.out _ _ _ (p - 1) (by omega) (by omega) KA.out.1 KA.out.2).mono ?_; rintro e w4 ⟨⟨r, rfl, hr⟩, hb⟩; have g0 : (0 : Int) < r := hr.2 HBF.out; have B4 := Lib.hid (B3.out.trans (hb.mono B3.out.size)); clear hb hr))
    go_roundw
    case rel => exact ⟨p - 1, by go_num, by omega, HBF, B4⟩
    case measure => simp [intOf] <;> omega
   ·have E : Hid (p = pp) := Lib.hid (IsP.unique ⟨hb, hL.out⟩ HP.out)
    have HBF := Lib.hid hb
    clear hb
    go_wp2_with (first
     | (go_at_call 164; refine (CO1.out _).mono ?_; rintro e w2 ⟨hb, v1, rfl, hv1, -⟩; have B2 := Lib.hid (hB.out.trans (hb.mono hB.out.size)); have K1 := Lib.hid hv1; clear hb hv1)
     | (go_at_call 163; refine (CV.out _ _ (p - 1) K1.out (by omega) (by omega)).mono ?_; rintro e w3 ⟨hb, va, vb, rfl, hva, hvb⟩; have B3 := Lib.hid (B2.out.trans (hb.mono B2.out.size)); have KA := Lib.hid (And.intro hva hvb); clear hb hva hvb)
     | (go_at_call 223; refine (AG.out _ _ _ (p - 1) (by omega) (by omega) KA.out.1 KA.out.2).mono ?_; rintro e w4 ⟨⟨r, rfl, hr⟩, hb⟩; have g0 : ¬ (0 : Int) < r := (fun h => by have := hr.1 h; rw [HBF.out] at this; cases this); have B4 := Lib.hid (B3.out.trans (hb.mono B3.out.size)); clear hb hr))
    go_ret
    exact ⟨by rw [E.out]; rfl, B4.out⟩
end Go.Proofs.YtlgencbldbpbdaaGreatDoor.R
