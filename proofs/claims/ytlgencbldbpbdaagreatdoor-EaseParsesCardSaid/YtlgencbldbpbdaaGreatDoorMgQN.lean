/- galleyref03: of, tens, twos. galleyref03.twos. galleyref03.compare. -/
import Derived.Test.YtlgencbldbpbdaaGreatDoorMgDhK
import Derived.Deep.Upon
namespace Go.Proofs.YtlgencbldbpbdaaGreatDoor.R
open Go.RowKit Fl
theorem cOf (x : Nat) (w : World) (hx : x < 18446744073709551616) :
  Calls Tryz.prog 164 #[.int .u64 x] w fun e w' => Below w.heap.size w w' ∧ ∃ v', e = .returned v' ∧ NV w' v' x ∧ ∀ g, blk v' = some g → w.heap.size ≤ g := by
 have w1 := u32_wrap x
 obtain ⟨a, ha⟩ : ∃ a, a = x % BB := ⟨_, rfl⟩
 obtain ⟨b, hb⟩ : ∃ b, b = x / BB := ⟨_, rfl⟩
 have lb : b < BB := by rw [hb]; unfold BB; omega
 have la : a < BB := by rw [ha]; exact Nat.mod_lt _ BB_pos
 have w2 : (x : Int) / 4294967296 = (b : Int) := by rw [hb]; unfold BB; omega
 have w3 : IntKind.u32.wrap (b : Int) = (b : Int) := by rw [u32_wrap, Nat.mod_eq_of_lt lb]
 rw [← ha] at w1
 have hv : val [a, b] = x := by
  simp only [val, Nat.mul_zero, Nat.add_zero]
  rw [ha, hb]
  exact Nat.mod_add_div _ _
 have N0 : Hid (NL (w.alloc (.cells #[.int .u32 a, .int .u32 b] 47)) (.slice (some ⟨w.heap.size, 0, none⟩) 2 2) [a, b]) := Lib.hid (by
  refine ⟨fun z hz => ?_, .inr ⟨w.heap.size, 0, 2, rfl, Nat.le_refl _, by unfold maxLen; decide, by simp, fun j z hj => ?_⟩⟩
  ·simp only [List.mem_cons, List.not_mem_nil, or_false] at hz
   rcases hz with rfl | rfl
   ·exact la
   ·exact lb
  ·match j, hj with
   | 0, hj => simp at hj; subst hj; simp [go_sem]
   | 1, hj => simp at hj; subst hj; simp [go_sem])
 have B0 : Hid (Below w.heap.size w (w.alloc (.cells #[.int .u32 a, .int .u32 b] 47))) := Lib.hid ((Below.refl _ _).alloc (Nat.le_refl _) _)
 have HV := Lib.hid hv
 clear ha hb lb la hv hx
 go_enter Tryz.func164, Tryz.ntmps164
 go_wp2_with (go_at_call 229; refine (cTrim N0.out).mono ?_; rintro e w' ⟨rfl, v2, rfl, hv2, hg2⟩; have R2 : Hid (NV _ v2 x) := Lib.hid ⟨_, hv2, tn_can _ (Nat.le_refl _), by rw [tn_val _ (Nat.le_refl _), List.take_length, HV.out]⟩; have HG := Lib.hid (fun g hg => hg2 g hg); clear hv2 hg2)
 go_ret
 exact ⟨B0.out, _, rfl, R2.out, fun g hg => by
  have := HG.out g hg
  simp only [blk, Option.some.injEq] at this
  omega⟩
set_option maxRecDepth 100000 in
set_option maxHeartbeats 1000000 in
theorem cTens {w : World} {v : Value} {x n L : Nat} (hv : NV w v x) (hL : L ≤ 10000) (hb : x * 10 ^ n < BB ^ L) (hn : n ≤ 1000000) :
  Calls Tryz.prog 225 #[v, .int .i64 n] w fun e w' => Below w.heap.size w w' ∧ ∃ v', e = .returned v' ∧ NV w' v' (x * 10 ^ n) := by
 have H0 := Lib.hid hv
 have HB := Lib.hid hb
 have HL := Lib.hid hL
 have hn2 : (n : Int) ≤ 1000000 := by omega
 clear hv hb hn hL
 go_enter Tryz.func225, Tryz.ntmps225
 go_wp2_with fail
 go_loopw [0, 5] (fun v i wx => ∃ k : Nat, k ≤ n ∧ i = .int .i64 k ∧ Hid (NV wx v (x * 10 ^ k)) ∧ Hid (Below w.heap.size w wx)) (fun _ i _ => n - (intOf i).toNat)
 case atStart => exact ⟨0, Nat.zero_le _, rfl, by rw [Nat.pow_zero, Nat.mul_one]; exact H0, Lib.hid (Below.refl _ _)⟩
 case round =>
  obtain ⟨k, hk, rfl, hV, hB⟩ := hrel
  by_cases hlt : k < n
  ·have hki : (k : Int) < (n : Int) := by omega
   have C := Lib.hid (cTimes (m := 10) (c := 0) hV.out HL.out (Nat.lt_of_le_of_lt (Nat.mul_le_mul_left x (Nat.pow_le_pow_right (by decide) hk)) HB.out) (by decide) BB_pos)
   have E : Hid (x * 10 ^ k * 10 + 0 = x * 10 ^ (k + 1)) := Lib.hid (by rw [Nat.pow_succ, Nat.add_zero, Nat.mul_assoc])
   have HLT := Lib.hid hlt
   clear hlt
   go_wp2_with (go_at_call 228; refine C.out.mono ?_; rintro e w1 ⟨hb1, v1, rfl, hv1, -⟩; have I := Lib.hid (And.intro (hB.out.trans (hb1.mono hB.out.size)) hv1); clear hb1 hv1)
   go_roundw
   case rel => exact ⟨k + 1, HLT.out, by go_num, by rw [← E.out]; exact Lib.hid I.out.2, Lib.hid I.out.1⟩
   case measure => have := HLT.out; simp [intOf]; omega
  ·have hki : ¬ (k : Int) < (n : Int) := by omega
   have hkn : k = n := by omega
   subst hkn
   clear hlt
   go_wp2
   go_ret
   exact ⟨hB.out, _, rfl, hV.out⟩
end Go.Proofs.YtlgencbldbpbdaaGreatDoor.R
namespace Go.Proofs.YtlgencbldbpbdaaGreatDoor.R
open Go.RowKit Fl
theorem wp_gen' {P : Program} {c : Code} {Q : Exit → Act → World → Prop} {a : Act} {w : World} (R : World → Prop) (h : R w) (k : ∀ wx, R wx → c.wp P Q a wx) : c.wp P Q a w := k w h
theorem wpList_app2 {w0 : World} {ops : Array Oper} {rest : List Oper} {o : Oper} {a : Act} {Q : Exit → Act → World → Prop} (hgd : o.guard = none) (s x : Operand)
  (ho : o.op = .call { callee := .builtin .append, args := #[s, x], argTypes := #[233, 233] }) (B : Nat) (v : Value) (l ys : List Nat) (b p c : Nat) (hs : a.eval s = v) (hown : OU w0 B v l) (hx : a.eval x = .slice (some ⟨b, p, none⟩) ys.length c) (hn : NA w0 b p ys) (hl : l.length + ys.length ≤ 1000000) (hB : B ≤ w0.heap.size)
  (h : ∀ v' w', OU w' B v' (l ++ ys) → (∀ wB, B ≤ wB.heap.size → Below B wB w0 → Below B wB w') → w0.heap.size ≤ w'.heap.size → wpList Tryz.prog ops Q rest (a.put o.dst v') w') : wpList Tryz.prog ops Q (o :: rest) a w0 := by
 obtain ⟨i0, hi, hz0, hz1, hz2⟩ := info_parts info106
 refine wpList_append_own _ hgd s x 233 ho B 47 i0 (.int .u32 0) 1 4 Tryz.underlying233 hi hz0 hz1 hz2 rfl (by decide) v l.length (l.map uv) hs hown ⟨b, p, none⟩ ys.length c (ys.map uv) hx (by simp) ?_ ?_ (by unfold maxLen; omega) (by omega) hB ?_
 ·intro j u hj
  rw [List.getElem?_map] at hj
  cases hy : ys[j]? with
  | none => rw [hy] at hj; cases hj
  | some z =>
    rw [hy] at hj
    cases hj
    have := hn.2 j z hy
    rcases j with _ | j
    ·simpa [Addr.add, uv] using this
    ·simpa [Addr.add, uv] using this
 ·intro u hu
  obtain ⟨z, _, rfl⟩ := List.mem_map.1 hu
  rfl
 ·intro v' w' own grow _
  refine h v' w' ?_ ?_ grow.size
  ·unfold OU
   rw [List.length_append, List.map_append]
   exact own
  ·intro wB hb1 hb2
   refine hb2.grown grow (by omega) fun k hk => ?_
   rcases hown.2 with ⟨e, _⟩ | ⟨g, _, _, e, hg, _⟩
   ·rw [e] at hk; cases hk
   ·rw [e] at hk; cases hk; exact hg
theorem wpList_app0 {w0 : World} {ops : Array Oper} {rest : List Oper} {o : Oper} {a : Act} {Q : Exit → Act → World → Prop} (hgd : o.guard = none) (s x : Operand)
  (ho : o.op = .call { callee := .builtin .append, args := #[s, x], argTypes := #[233, 233] }) (p : Option Addr) (n c : Nat) (hs : a.eval s = .slice p n c) (hc : n ≤ c) (hx : a.eval x = .slice none 0 0)
  (h : wpList Tryz.prog ops Q rest (a.put o.dst (.slice p n c)) w0) : wpList Tryz.prog ops Q (o :: rest) a w0 := by
 obtain ⟨i0, hi, hz0, hz1, hz2⟩ := info_parts info106
 refine wpList_plain hgd fun K hK => ?_
 have hr := run_append_nothing (P := Tryz.prog) w0 233 233 o.type 47 i0 Tryz.underlying233 hi p n c hc _ (Src.ofNil w0 Tryz.underlying233 0)
 unfold Oper.wp execOp
 simp only [ho, resolve, invoke, builtin, Sem.run_bind, Sem.run_pure, Result.andThen_ok, List.map_toArray, List.map_cons, List.map_nil, hs, hx, hr]
 exact hK _ _ h
theorem OU.below {w w' : World} {B : Nat} {v : Value} {l : List Nat} (h : OU w B v l) (hb : Below w.heap.size w w') : OU w' B v l := by
 obtain ⟨h1, h2⟩ := h
 refine ⟨h1, ?_⟩
 rcases h2 with h2 | ⟨g, cap, cur, e, h3, h4, h5⟩
 ·exact .inl h2
 ·exact .inr ⟨g, cap, cur, e, h3, (hb.block _ (Array.getElem?_eq_some_iff.1 h4).1).trans h4, h5⟩
theorem twos_val (x q s : Nat) (l : List Nat) (h : val l = x * 2 ^ s + 0) : val (List.replicate q 0 ++ l) = x * 2 ^ (32 * q + s) := by
 rw [val_append, val_replicate, List.length_replicate, h, Nat.zero_add, Nat.add_zero, BB_pow, Nat.pow_add, Nat.mul_left_comm]
set_option maxRecDepth 100000 in
set_option maxHeartbeats 1000000 in
theorem cTwos {w : World} {v : Value} {x n L : Nat} (hv : NV w v x) (hL : L ≤ 10000) (hb : x * 2 ^ n < BB ^ L) (hn : n ≤ 1000000) :
  Calls Tryz.prog 224 #[v, .int .i64 n] w fun e w' => Below w.heap.size w w' ∧ ∃ v', e = .returned v' ∧ NV w' v' (x * 2 ^ n) := by
 obtain ⟨q, hq⟩ : ∃ q, q = n / 32 := ⟨_, rfl⟩
 obtain ⟨s, hs⟩ : ∃ s, s = n % 32 := ⟨_, rfl⟩
 have hs32 : s < 32 := by rw [hs]; exact Nat.mod_lt _ (by decide)
 have hqn : 32 * q + s = n := by rw [hq, hs]; omega
 have hps : 2 ^ s < BB := by
  have : 2 ^ s ≤ 2 ^ 31 := Nat.pow_le_pow_right (by decide) (by omega)
  unfold BB; omega
 have hx : x < BB ^ L := Nat.lt_of_le_of_lt (Nat.le_mul_of_pos_right x (Nat.two_pow_pos n)) hb
 obtain ⟨ps, hpe⟩ : ∃ ps, ps = 2 ^ s := ⟨_, rfl⟩
 have hsh : (2 : Int) ^ min s 32 % 4294967296 = (ps : Int) := by
  rw [Nat.min_eq_left (by omega), show ((2 : Int) ^ s) = ((2 ^ s : Nat) : Int) from by push_cast; rfl, ← hpe]
  rw [← hpe] at hps
  unfold BB at hps
  omega
 rw [← hpe] at hps
 have C67 := Lib.hid (fun w' (h : Below w.heap.size w w') => show Calls Tryz.prog 228 #[v, .int .u32 ps, .int .u32 0] w' _ from cTimes (m := ps) (c := 0) (hv.below h) hL hx hps BB_pos)
 have HPE := Lib.hid hpe
 have hq2 : (n : Int).tdiv 32 = (q : Int) := by rw [Int.tdiv_eq_ediv_of_nonneg (by omega), hq]; omega
 have hs2 : (n : Int).tmod 32 = (s : Int) := by rw [Int.tmod_eq_emod_of_nonneg (by omega), hs]; omega
 have hmk : ∀ wx : World, (Instr.makeSlice 233 (.int .i64 q) (.int .i64 q)).run Tryz.prog wx = .ok (.slice (some ⟨wx.heap.size, 0, none⟩) q q) (wx.alloc (.cells (madeCells #[.int .u32 0] q) 47)) := fun wx => run_mk q q (Nat.le_refl _) (by omega) wx
 have O0 := Lib.hid (OU.made w (p := q) (q := q) (Nat.le_refl _) (by unfold maxLen; omega) (B := w.heap.size) (Nat.le_refl _))
 have B0 : Hid (Below w.heap.size w (w.alloc (.cells (madeCells #[.int .u32 0] q) 47))) := Lib.hid ((Below.refl _ _).alloc (Nat.le_refl _) _)
 have hs3 : ¬ ((s : Int) < 0) := by omega
 have hq3 : (q : Int) ≤ 31250 := by omega
 have HQ := Lib.hid (And.intro hqn (And.intro hs32 (show q ≤ 31250 by omega)))
 have HB := Lib.hid hb
 have HL := Lib.hid hL
 have hn0 : (0 : Int) ≤ (n : Int) := by omega
 have hn1 : (n : Int) ≤ 1000000 := by omega
 clear hv hb hx hL hn hq hs hqn hps hs32 hpe
 go_enter Tryz.func224, Tryz.ntmps224
 go_upto_region 2 with fail
 refine wp_gen' (fun wx => Hid (OU wx w.heap.size (.slice (some ⟨w.heap.size, 0, none⟩) q q) (List.replicate q 0) ∧ Below w.heap.size w wx)) (Lib.hid ⟨O0.out, B0.out⟩) ?_
 intro w1 hW
 clear O0 B0 hmk
 have EX : (List.replicate q 0).length ≤ 31250 := by rw [List.length_replicate]; exact HQ.out.2.2
 have EX := Lib.hid EX
 have C := Lib.hid (C67.out w1 hW.out.2)
 clear C67
 go_wp2_with fail
 refine C.out.mono ?_
 rintro e w2 ⟨hb2, v2, rfl, hv2, -⟩
 have I := Lib.hid (And.intro (hW.out.1.below hb2) (hW.out.2.trans (hb2.mono hW.out.2.size)))
 obtain ⟨ys, hl, hc, hval⟩ := hv2
 rw [HPE.out] at hval
 have W1 : Hid (W64 (List.replicate q 0 ++ ys)) := Lib.hid ((W64.replicate q).append hl.1)
 have V1 : Hid (val (List.replicate q 0 ++ ys) = x * 2 ^ n) := Lib.hid (by rw [twos_val x q s ys hval, HQ.out.1])
 have LY : Hid (ys.length ≤ 10001) := Lib.hid (Nat.le_trans (len_small (n := L + 1) hl.1 hc (by
  rw [hval, Nat.add_zero, Nat.pow_succ]
  have h1 : x * 2 ^ s < BB ^ L := by
   refine Nat.lt_of_le_of_lt (Nat.mul_le_mul_left x (Nat.pow_le_pow_right (by decide) ?_)) HB.out
   have := HQ.out.1; omega
  exact Nat.lt_of_lt_of_le h1 (Nat.le_mul_of_pos_right _ BB_pos))) (by have := HL.out; omega))
 clear hb2 C hW hval hc
 rcases hl with ⟨-, ⟨rfl, rfl⟩ | ⟨b, o, c, rfl, -, -, hA⟩⟩
 ·have I2 := Lib.hid I.out.1
  go_wp2_with (first
   | (at_builtin; refine wpList_app0 rfl (.tmp 9) (.tmp 14) rfl (some ⟨w.heap.size, 0, none⟩) q q rfl (Nat.le_refl _) rfl ?_)
   | (go_at_call 229; refine (cTrim (I2.out.nl (by have := W1.out; rwa [List.append_nil] at this))).mono ?_; rintro e w' ⟨rfl, v3, rfl, hv3, -⟩; have R2 := Lib.hid hv3; clear hv3))
  go_ret
  refine ⟨I.out.2, _, rfl, _, R2.out, tn_can _ (Nat.le_refl _), ?_⟩
  rw [tn_val _ (Nat.le_refl _), List.take_length]
  have := V1.out
  rwa [List.append_nil] at this
 ·have HA := Lib.hid hA
  clear hA
  go_wp2_with (first
   | (at_builtin; refine wpList_app2 rfl (.tmp 9) (.tmp 14) rfl w.heap.size _ _ ys b o c rfl I.out.1 rfl HA.out (by have := LY.out; have := EX.out; omega) I.out.2.size ?_; intro v' w' own' bel' siz'; replace own' := Lib.hid own'; replace bel' := Lib.hid bel'; clear siz')
   | (go_at_call 229; refine (cTrim (own'.out.nl W1.out)).mono ?_; rintro e w'' ⟨rfl, v3, rfl, hv3, -⟩; have R2 := Lib.hid hv3; clear hv3))
  go_ret
  exact ⟨bel'.out w (Nat.le_refl _) I.out.2, _, rfl, _, R2.out, tn_can _ (Nat.le_refl _), by rw [tn_val _ (Nat.le_refl _), List.take_length, V1.out]⟩
end Go.Proofs.YtlgencbldbpbdaaGreatDoor.R
namespace Go.Proofs.YtlgencbldbpbdaaGreatDoor.R
open Go.RowKit Fl
theorem val_split (l : List Nat) (k : Nat) : val l = val (l.take k) + BB ^ (l.take k).length * val (l.drop k) := by
 rw [← val_append, List.take_append_drop]
theorem cmp_at {a b : List Nat} (ha : W64 a) {i x y : Nat} (hx : a[i]? = some x) (hy : b[i]? = some y) (hxy : x < y) (hd : a.drop (i + 1) = b.drop (i + 1)) : val a < val b := by
 have la : i < a.length := (List.getElem?_eq_some_iff.1 hx).1
 have lb : i < b.length := (List.getElem?_eq_some_iff.1 hy).1
 rw [val_split a (i + 1), val_split b (i + 1), hd]
 have e1 : (a.take (i + 1)).length = i + 1 := by rw [List.length_take]; omega
 have e2 : (b.take (i + 1)).length = i + 1 := by rw [List.length_take]; omega
 rw [e1, e2, val_take_succ la, val_take_succ lb]
 have g1 : a.getD i 0 = x := by rw [List.getD, hx]; rfl
 have g2 : b.getD i 0 = y := by rw [List.getD, hy]; rfl
 rw [g1, g2]
 have h1 := val_lt (ha.take i)
 rw [List.length_take, Nat.min_eq_left (by omega)] at h1
 have h2 : BB ^ i * (x + 1) ≤ BB ^ i * y := Nat.mul_le_mul_left _ hxy
 rw [Nat.mul_add, Nat.mul_one] at h2
 omega
theorem drop_same {a b : List Nat} {i x : Nat} (hx : a[i]? = some x) (hy : b[i]? = some x) (hd : a.drop (i + 1) = b.drop (i + 1)) : a.drop i = b.drop i := by
 have la : i < a.length := (List.getElem?_eq_some_iff.1 hx).1
 have lb : i < b.length := (List.getElem?_eq_some_iff.1 hy).1
 rw [List.drop_eq_getElem_cons la, List.drop_eq_getElem_cons lb, hd, (List.getElem?_eq_some_iff.1 hx).2, (List.getElem?_eq_some_iff.1 hy).2]
set_option maxRecDepth 100000 in
set_option maxHeartbeats 2000000 in
theorem cCmp {w : World} {v u : Value} {x y L : Nat} (hv : NV w v x) (hu : NV w u y) (hL : L ≤ 10000) (hx : x < BB ^ L) (hy : y < BB ^ L) :
  Calls Tryz.prog 226 #[v, u] w fun e w' => (∃ r, e = .returned (.int .i64 r) ∧ CmpR x y r) ∧ ∃ n, w' = w.drewN n := by
 obtain ⟨a, na, ca, rfl⟩ := hv
 obtain ⟨b, nb, cb, rfl⟩ := hu
 have la := Nat.le_trans (len_small na.1 ca hx) hL
 have lb := Nat.le_trans (len_small nb.1 cb hy) hL
 by_cases hne : a.length = b.length
 ·rcases Nat.eq_zero_or_pos a.length with h0 | h0
  ·have ea : a = [] := List.eq_nil_of_length_eq_zero h0
   have eb : b = [] := List.eq_nil_of_length_eq_zero (by omega)
   obtain ⟨A, c, rfl⟩ := na.form
   obtain ⟨A', c', rfl⟩ := nb.form
   subst ea
   subst eb
   clear na nb ca cb hL hx hy la lb hne h0
   go_enter Tryz.func226, Tryz.ntmps226
   go_wp2
   refine wp_loop_rounds 1 ?_
   rw [rounds_succ]
   go_wp2
   go_ret
   exact ⟨⟨_, rfl, fun h => absurd h (Nat.lt_irrefl _), fun _ => rfl, fun h => absurd h (Nat.lt_irrefl _)⟩, 0, rfl⟩
  ·obtain ⟨p, o, c, rfl, hc, hcm, hA⟩ := na.addr h0
   obtain ⟨p', o', c', rfl, hc', hcm', hA'⟩ := nb.addr (by omega)
   rw [← hne]
   have HA := Lib.hid hA
   have HB := Lib.hid hA'
   have WA := Lib.hid na.1
   have WB := Lib.hid nb.1
   have HN := Lib.hid hne
   have la2 : (a.length : Int) ≤ 10000 := by omega
   have la0 : (1 : Int) ≤ (a.length : Int) := by omega
   have LP := Lib.hid h0
   clear hA hA' na nb ca cb hL hx hy la lb hne hc hc' hcm hcm' h0
   go_enter Tryz.func226, Tryz.ntmps226
   go_wp2_with fail
   go_loopw [5] (fun i wx => ∃ k : Nat, Hid (k ≤ a.length) ∧ i = .int .i64 ((k : Int) - 1) ∧ Hid (a.drop k = b.drop k) ∧ ∃ n, wx = w.drewN n) (fun i _ => (intOf i + 1).toNat)
   case atStart => exact ⟨a.length, Lib.hid (Nat.le_refl _), rfl, Lib.hid (by rw [List.drop_length, HN.out, List.drop_length]), 0, rfl⟩
   case round =>
    obtain ⟨k, hk, rfl, hd, n, rfl⟩ := hrel
    rcases k with _ | i
    ·have HR : Hid (CmpR (val a) (val b) 0) := Lib.hid (by
      have e : val a = val b := by have := hd.out; simp at this; rw [this]
      rw [e]
      exact ⟨fun h => absurd h (Nat.lt_irrefl _), fun _ => rfl, fun h => absurd h (Nat.lt_irrefl _)⟩)
     go_wp2
     go_ret
     exact ⟨⟨_, rfl, HR.out⟩, _, rfl⟩
    ·have hia : i < a.length := hk.out
     obtain ⟨x, hx⟩ : ∃ x, a[i]? = some x := ⟨a[i], List.getElem?_eq_getElem hia⟩
     obtain ⟨y, hy⟩ : ∃ y, b[i]? = some y := ⟨b[i]'(by rw [← HN.out]; exact hia), List.getElem?_eq_getElem _⟩
     have kx := HA.out.2 i x hx
     have ky := HB.out.2 i y hy
     have hki : (i : Int) < (a.length : Int) := by omega
     have ei : ((i + 1 : Nat) : Int) - 1 = (i : Int) := by omega
     rw [ei]
     have e : (decide ((x : Int) < (y : Int))) = decide (x < y) := by simp
     have X := Lib.hid hx
     have Y := Lib.hid hy
     clear hx hy hia ei
     by_cases h1 : x < y
     ·have hi1 : (x : Int) < (y : Int) := by omega
      have HR : Hid (CmpR (val a) (val b) (-1)) := Lib.hid (by
       have := cmp_at WA.out X.out Y.out h1 hd.out
       exact ⟨fun _ => by decide, fun h => by omega, fun h => by omega⟩)
      clear h1 e
      go_upto_region 8 with fail
      go_quiet (fail)
      go_wp2_with fail
      go_ret
      exact ⟨⟨_, rfl, HR.out⟩, _, by rw [World.drewN_drewN]⟩
     ·have hi1 : ¬ (x : Int) < (y : Int) := by omega
      by_cases h2 : y < x
      ·have hi2 : (y : Int) < (x : Int) := by omega
       have HR : Hid (CmpR (val a) (val b) 1) := Lib.hid (by
        have := cmp_at WB.out Y.out X.out h2 hd.out.symm
        exact ⟨fun h => by omega, fun h => by omega, fun _ => by decide⟩)
       clear h1 h2 e
       go_upto_region 8 with fail
       go_quiet (fail)
       go_upto_region 10 with fail
       go_quiet (fail)
       go_wp2_with fail
       go_ret
       exact ⟨⟨_, rfl, HR.out⟩, _, rfl⟩
      ·have hi2 : ¬ (y : Int) < (x : Int) := by omega
       have hxy : x = y := by omega
       subst hxy
       have D2 : Hid (a.drop i = b.drop i) := Lib.hid (drop_same X.out Y.out hd.out)
       have K2 : Hid (i ≤ a.length) := Lib.hid (by have := hk.out; omega)
       clear h1 h2 e hi2
       go_upto_region 8 with fail
       go_quiet (fail)
       go_upto_region 10 with fail
       go_quiet (fail)
       go_wp2_with fail
       go_roundw
       case rel => exact ⟨i, K2, by go_num, D2, _, rfl⟩
       case measure => simp [intOf]
 ·obtain ⟨A, c, rfl⟩ := na.form
  obtain ⟨A', c', rfl⟩ := nb.form
  have la2 : (a.length : Int) ≤ 10000 := by omega
  have lb2 : (b.length : Int) ≤ 10000 := by omega
  have hne2 : ¬ ((a.length : Int) = (b.length : Int)) := by omega
  by_cases hlt : a.length < b.length
  ·have hl2 : (a.length : Int) < (b.length : Int) := by omega
   have hl3 : decide (a.length < b.length) = true := decide_eq_true hlt
   have HR : Hid (CmpR (val a) (val b) (-1)) := Lib.hid (by
    have := len_lt na.1 cb hlt
    exact ⟨fun _ => by decide, fun h => by omega, fun h => by omega⟩)
   clear na nb ca cb hL hx hy la lb hne hlt
   go_enter Tryz.func226, Tryz.ntmps226
   go_wp2
   go_ret
   exact ⟨⟨_, rfl, HR.out⟩, 0, rfl⟩
  ·have hl2 : ¬ (a.length : Int) < (b.length : Int) := by omega
   have hl3 : decide (a.length < b.length) = false := decide_eq_false hlt
   have HR : Hid (CmpR (val a) (val b) 1) := Lib.hid (by
    have := len_lt nb.1 ca (show b.length < a.length by omega)
    exact ⟨fun h => by omega, fun h => by omega, fun _ => by decide⟩)
   clear na nb ca cb hL hx hy la lb hne hlt
   go_enter Tryz.func226, Tryz.ntmps226
   go_wp2
   go_ret
   exact ⟨⟨_, rfl, HR.out⟩, 0, rfl⟩
end Go.Proofs.YtlgencbldbpbdaaGreatDoor.R
