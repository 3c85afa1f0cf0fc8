/- Right of whole numbers. Quo of whole numbers. Add of whole numbers (printed by gen_lgk.py). math/bits.Mul64. Times of whole numbers. -/
import Derived.Test.YtlgencbldbpbdaaGreatDoorMgDhD
import Derived.Test.YtlgencbldbpbdaaGreatDoorMgLgG0
import Derived.Test.YtlgencbldbpbdaaGreatDoorMgLgE
import Derived.Deep.RegionLaw
namespace Go.Proofs.YtlgencbldbpbdaaGreatDoor
open Go.RowKit Fl
def lostAt (l : List Nat) (q s k : Nat) : Bool := decide (val (l.take q) ≠ 0) || (decide (0 < k) && decide ((l.drop q).getD 0 0 % 2 ^ s ≠ 0))
theorem lost_iff (l : List Nat) (q : Nat) : (0 : Int) < (((l.take q).take (tn (l.take q) (l.take q).length)).length : Int) ↔ val (l.take q) ≠ 0 := by
 have h1 := tn_val (l := l.take q) _ (Nat.le_refl _)
 have h2 := tn_can (l := l.take q) _ (Nat.le_refl _)
 rw [List.take_length] at h1
 constructor
 ·intro h h0
  rw [h0] at h1
  have := val_zero h2 h1
  rw [this] at h
  simp at h
 ·intro h
  refine Int.natCast_pos.2 (Nat.pos_of_ne_zero fun h0 => h ?_)
  rw [← h1, List.eq_nil_of_length_eq_zero h0]
  rfl
theorem rs_bits {x y s : Nat} (hs : s ≤ 63) (hx : x < BB) : bits .or .u64 ((x : Int) / 2 ^ s) (IntKind.u64.wrap (IntKind.u64.wrap ((y : Int) * 2) * 2 ^ (63 - s))) = (((x / 2 ^ s + y * 2 ^ (64 - s)) % BB : Nat) : Int) := by
 have e := BB_split s (by omega)
 have e1 : ((x : Int) / 2 ^ s) = ((x / 2 ^ s : Nat) : Int) := by push_cast; rfl
 have e2 : IntKind.u64.wrap (IntKind.u64.wrap ((y : Int) * 2) * 2 ^ (63 - s)) = ((y * 2 ^ (64 - s) % BB : Nat) : Int) := by
  rw [show ((y : Int) * 2) = ((y * 2 : Nat) : Int) from by push_cast; rfl, u64_wrap, show (((y * 2 % BB : Nat) : Int) * 2 ^ (63 - s)) = ((y * 2 % BB * 2 ^ (63 - s) : Nat) : Int) from by push_cast; rfl, u64_wrap, Nat.mod_mul_mod, Nat.mul_assoc, ← Nat.pow_succ', show (63 - s).succ = 64 - s by omega]
 have h1 : x / 2 ^ s < 2 ^ (64 - s) := by
  rw [Nat.div_lt_iff_lt_mul (Nat.two_pow_pos s), Nat.mul_comm, ← e]; exact hx
 have h2 : y * 2 ^ (64 - s) % BB = 2 ^ (64 - s) * (y % 2 ^ s) := by
  rw [e, Nat.mul_comm (2 ^ s), Nat.mul_comm y, Nat.mul_mod_mul_left]
 have h3 : y % 2 ^ s < 2 ^ s := Nat.mod_lt _ (Nat.two_pow_pos s)
 have h4 : x / 2 ^ s + 2 ^ (64 - s) * (y % 2 ^ s) < BB := by
  have : 2 ^ (64 - s) * (y % 2 ^ s + 1) ≤ 2 ^ (64 - s) * 2 ^ s := Nat.mul_le_mul_left _ h3
  rw [Nat.mul_add, Nat.mul_one, Nat.mul_comm (2 ^ (64 - s)) (2 ^ s), ← e] at this
  omega
 have h5 : x / 2 ^ s < BB := Nat.lt_of_le_of_lt (Nat.le_add_right _ _) h4
 rw [e1, e2, u64_or_nat _ _ (show x / 2 ^ s < 18446744073709551616 from h5) (show y * 2 ^ (64 - s) % BB < 18446744073709551616 from Nat.mod_lt _ BB_pos), h2, Nat.or_comm, ← Nat.two_pow_add_eq_or_of_lt h1, Nat.add_comm, Nat.add_mod, h2, Nat.mod_eq_of_lt h5, Nat.mod_eq_of_lt h4]
theorem low_bits {x s : Nat} (hs : s ≤ 63) (hx : x < BB) : bits .and .u64 (x : Int) (IntKind.u64.wrap (IntKind.u64.wrap (2 ^ s) - 1)) = ((x % 2 ^ s : Nat) : Int) := by
 have h1 : (2 : Nat) ^ s ≤ 2 ^ 63 := Nat.pow_le_pow_right (by decide) hs
 have h0 := Nat.two_pow_pos s
 have e1 : IntKind.u64.wrap (2 ^ s) = ((2 ^ s : Nat) : Int) := by
  rw [show ((2 : Int) ^ s) = ((2 ^ s : Nat) : Int) from by push_cast; rfl, u64_wrap, Nat.mod_eq_of_lt (show 2 ^ s < BB by unfold BB; omega)]
 have e2 : IntKind.u64.wrap (((2 ^ s : Nat) : Int) - 1) = ((2 ^ s - 1 : Nat) : Int) := by
  rw [show ((2 ^ s : Nat) : Int) - 1 = ((2 ^ s - 1 : Nat) : Int) by omega, u64_wrap, Nat.mod_eq_of_lt (show 2 ^ s - 1 < BB by unfold BB; omega)]
 rw [e1, e2, u64_and_nat _ _ hx (by omega), Nat.and_two_pow_sub_one_eq_mod]
theorem OU.drew {w : World} {B : Nat} {v : Value} {l : List Nat} (h : OU w B v l) : OU w.drew B v l := h
theorem step_app {w0 : World} {ops : Array Oper} {o : Oper} {a : Act} {K : Act → World → Prop} {Q : Exit → Act → World → Prop} {E : Prop} (hgd : o.guard = none) (s x : Operand)
  (ho : o.op = .call { callee := .builtin .append, args := #[s, x], argTypes := #[254, 254] }) (B : Nat) (v : Value) (l : List Nat) (d : Nat) (hs : a.eval s = v) (hown : OU w0 B v l) (hx : a.eval x = .slice (some ⟨w0.heap.size, 0, none⟩) 1 1) (hl : l.length ≤ 1000000) (hB : B ≤ w0.heap.size)
  (h : ∀ v' w', OU w' B v' (l ++ [d]) → (∀ wB, B ≤ wB.heap.size → Below B wB w0 → Below B wB w') → K (a.put o.dst v') w') :
  if Region.wanted o (yielded ops a.tmps) = true then Oper.wp Tryz.prog o a (w0.alloc (.cells #[.int .u64 (d : Int)] 101)) K Q else E := by
 obtain ⟨i0, hi, hz0, hz1, hz2⟩ := info_parts info77
 refine step_append_lies _ hgd s x 254 ho B 101 i0 (.int .u64 0) 1 8 Tryz.underlying254 hi hz0 hz1 hz2 rfl (by decide) v l.length (l.map uv) hs (hown.alloc _) ⟨w0.heap.size, 0, none⟩ 1 1 [uv d] hx rfl ?_ ?_ (by decide) (by unfold maxLen; omega) (by omega) (by simp; omega) _ rfl ?_
 ·intro j u hj
  match j, hj with
  | 0, hj => simp at hj; subst hj; simp [Addr.add, uv]
 ·intro u hu; simp at hu; subst hu; rfl
 ·intro g cap w' own grow _ _
  refine h _ w' ?_ ?_
  ·unfold OU
   rw [List.length_append, List.map_append]
   exact own
  ·intro wB hb1 hb2
   refine (hb2.alloc hB _).grown grow (by simp; omega) fun k hk => ?_
   rcases hown.2 with ⟨e, _⟩ | ⟨g, _, _, e, hg, _⟩
   ·rw [e] at hk; cases hk
   ·rw [e] at hk; cases hk; exact hg
theorem lost_end {l : List Nat} (hW : W64 l) (q s k n : Nat) (hs : s ≤ 63) (hk : 0 < k) (hn : 64 * q + s = n) : lostAt l q s k = decide (val l % 2 ^ n ≠ 0) := by
 have h := val_lost hW q s hs
 rw [hn] at h
 unfold lostAt
 rw [decide_eq_true hk, Bool.true_and]
 by_cases h1 : val (l.take q) = 0
 ·rw [decide_eq_false (fun h3 => h3 h1), Bool.false_or]
  by_cases h2 : (l.drop q).getD 0 0 % 2 ^ s = 0
  ·rw [decide_eq_false (fun h3 => h3 h2), decide_eq_false (fun h3 => h3 (h.2 ⟨h1, h2⟩))]
  ·rw [decide_eq_true h2, decide_eq_true (show val l % 2 ^ n ≠ 0 from fun h3 => h2 (h.1 h3).2)]
 ·rw [decide_eq_true h1, Bool.true_or, decide_eq_true (show val l % 2 ^ n ≠ 0 from fun h3 => h1 (h.1 h3).1)]
theorem bne_nat (a : Nat) : ((a : Int) != 0) = decide (a ≠ 0) := by
 by_cases h : a = 0
 ·subst h; rfl
 ·rw [decide_eq_true h, bne_iff_ne]; omega
set_option maxRecDepth 100000 in
set_option maxHeartbeats 2000000 in
theorem c81s {w : World} {b o c : Nat} {l : List Nat} {n : Nat} (hW : W64 l) (hC : Can l) (hA : NA w b o l) (hcl : l.length ≤ c) (hcm : c ≤ maxLen) (hlen : l.length ≤ 1000) (hn : n ≤ 64000) (h0 : 0 < l.length) (hq : n / 64 < l.length) :
  Calls Tryz.prog 252 #[.slice (some ⟨b, o, none⟩) l.length c, .int .i64 n] w fun e w' => Below w.heap.size w w' ∧ ∃ v', e = .returned (.tuple #[v', .bool (decide (val l % 2 ^ n ≠ 0))]) ∧ NV w' v' (val l / 2 ^ n) ∧ ∀ g, blk v' = some g → w.heap.size ≤ g := by
 obtain ⟨q, hq'⟩ : ∃ q, q = n / 64 := ⟨_, rfl⟩
 obtain ⟨s, hs'⟩ : ∃ s, s = n % 64 := ⟨_, rfl⟩
 have hqn : (n : Int) / 64 = (q : Int) := by omega
 have hsn : (n : Int) % 64 = (s : Int) := by omega
 have hql : (q : Int) < (l.length : Int) := by omega
 have hl2 : (l.length : Int) ≤ 1000 := by omega
 have hlc : (l.length : Int) ≤ (c : Int) := by omega
 have hs2 : (s : Int) ≤ 63 := by omega
 have hn2 : (n : Int) ≤ 64000 := by omega
 have hn0 : (0 : Int) ≤ (n : Int) := by omega
 have hq3 : (n : Int) / 64 ≤ 1000 := by omega
 have hq4 : (0 : Int) ≤ (n : Int) / 64 := by omega
 have hcm2 : (c : Int) ≤ 9223372036854775807 := by unfold maxLen at hcm; omega
 have HT : Hid (NL w (.slice (some ⟨b, o, none⟩) q q) (l.take q)) := Lib.hid ⟨hW.take q, .inr ⟨b, o, q, by rw [List.length_take, Nat.min_eq_left (by omega)], by rw [List.length_take]; omega, by omega, hA.take q⟩⟩
 have HA := Lib.hid hA
 have HW := Lib.hid hW
 have HQ := Lib.hid (And.intro hqn hsn)
 have HQ' := Lib.hid (And.intro hq' hs')
 replace hql := Lib.hid hql
 clear hA hW hC hcm hqn hsn hq' hs' hq
 go_enter Tryz.func252, Tryz.ntmps252
 go_upto_region 2 with fail
 have hmin : min ((n : Int) / 64) (l.length : Int) = (q : Int) := by have := HQ.out.1; have := hql.out; omega
 rw [hmin]
 clear hmin
 have hq0 : (q : Int) ≤ (l.length : Int) := by have := hql.out; omega
 go_upto_region 3 with (go_at_call 253; refine (c82 HT.out).mono ?_; rintro e w' ⟨rfl, v', rfl, hv'⟩; obtain ⟨A', c', rfl⟩ := hv'.form; have HM := Lib.hid (show (0 : Int) < ((l.take q).take (tn (l.take q) (l.take q).length)).length ↔ val (l.take q) ≠ 0 from (lost_iff l q)); clear hv'; generalize ((l.take q).take (tn (l.take q) (l.take q).length)).length = m at *)
 obtain ⟨b0, hb0⟩ : ∃ b0, b0 = decide (val (l.take q) ≠ 0) := ⟨_, rfl⟩
 have hdm : decide (0 < m) = b0 := by
  rw [hb0]
  have := HM.out
  by_cases h : val (l.take q) = 0
  ·have h1 : ¬ (0 : Int) < (m : Int) := fun h2 => this.1 h2 h
   simp [h]; omega
  ·have h1 := this.2 h
   simp [h]; omega
 rw [hdm]
 replace hb0 := Lib.hid hb0
 clear hdm HM HT
 have hqe : ¬ ((q : Int) < (n : Int) / 64) := by have := HQ.out.1; omega
 have hqc : (q : Int) ≤ (c : Int) := by omega
 have hcq : ¬ (c = q) := by have := hql.out; omega
 obtain ⟨r, hr⟩ : ∃ r, l.length = q + r := ⟨l.length - q, by omega⟩
 have hmk : ∀ wx : World, (Instr.makeSlice 254 (.int .i64 0) (.int .i64 (r : Int))).run Tryz.prog wx = .ok (.slice (some ⟨wx.heap.size, 0, none⟩) 0 r) (wx.alloc (.cells (madeCells #[.int .u64 0] r) 101)) := fun wx => run_mk 0 r (by omega) (by omega) wx
 have O0 := Lib.hid (OU.made w (p := 0) (q := r) (by omega) (by unfold maxLen; omega) (B := w.heap.size) (Nat.le_refl _))
 have B0 : Hid (Below w.heap.size w (w.alloc (.cells (madeCells #[.int .u64 0] r) 101))) := Lib.hid ((Below.refl _ _).alloc (Nat.le_refl _) _)
 have HD := Lib.hid (HA.out.drop q)
 have HR := Lib.hid hr
 have hr2 : (r : Int) ≤ 1000 := by omega
 have hrc : (r : Int) ≤ ((c - q : Nat) : Int) := by omega
 go_upto_region 7 with fail
 generalize w.alloc (.cells (madeCells #[.int .u64 0] r) 101) = w1 at *
 generalize (Value.slice (some ⟨w.heap.size, 0, none⟩) 0 r) = v1 at *
 go_wp2_with fail
 go_loopw [7, 9, 38] (fun bl v i wx => ∃ (k : Nat) (b1 : Bool), k ≤ r ∧ i = .int .i64 k ∧ bl = .bool b1 ∧ Hid (b1 = lostAt l q s k) ∧ Hid (OU wx w.heap.size v ((rsV s (l.drop q)).take k)) ∧ Hid (Below w.heap.size w wx)) (fun _ _ i _ => r - (intOf i).toNat)
 case atStart => exact ⟨0, b0, Nat.zero_le _, rfl, rfl, Lib.hid (by rw [hb0.out]; simp [lostAt]), Lib.hid (by rw [List.take_zero]; exact O0.out), B0⟩
 case round =>
  obtain ⟨k, b1, hk, rfl, rfl, hL, hO, hB⟩ := hrel
  by_cases hlt : k < r
  ·have hki : (k : Int) < (r : Int) := by omega
   have hdl : (l.drop q).length = r := by rw [List.length_drop]; have := HR.out; omega
   obtain ⟨x, hx⟩ : ∃ x, (l.drop q)[k]? = some x := ⟨(l.drop q)[k], List.getElem?_eq_getElem (by omega)⟩
   have kc := (HD.out.below hB.out).2 k x hx
   obtain ⟨y, hy⟩ : ∃ y, y = (l.drop q).getD (k + 1) 0 := ⟨_, rfl⟩
   have HX := Lib.hid hx
   have HY := Lib.hid hy
   have HLT := Lib.hid hlt
   clear hx hy hlt
   have HD2 := Lib.hid (fun (z : Nat) (hz : (l.drop q)[k + 1]? = some z) => (HD.out.below hB.out).2 (k + 1) z hz)
   have HDL := Lib.hid hdl
   clear hdl
   go_upto_if 47 with fail
   go_cut [12, 38] from 38 to 79 (fun u i wx => u = .int .u64 (y : Int) ∧ i = .int .i64 (k : Int) ∧ wx = wr)
   case first =>
    by_cases hk1 : k + 1 < r
    ·have hki2 : (k : Int) + 1 < (r : Int) := by omega
     have hy2 : (l.drop q)[k + 1]? = some y := by
      have hlt2 : k + 1 < (l.drop q).length := by have := HDL.out; omega
      rw [HY.out, List.getD, List.getElem?_eq_getElem hlt2]; rfl
     have kc2 := HD2.out y hy2
     clear hy2 hk1
     go_wp2_with fail
     go_meet
     exact ⟨rfl, rfl, rfl⟩
    ·have hki2 : ¬ (k : Int) + 1 < (r : Int) := by omega
     have hy2 : y = 0 := by rw [HY.out, List.getD, List.getElem?_eq_none (by have := HDL.out; omega)]; rfl
     subst hy2
     clear hk1
     go_wp2_with fail
     go_meet
     exact ⟨rfl, rfl, rfl⟩
   case rest =>
    obtain ⟨rfl, rfl, rfl⟩ := hcut
    obtain ⟨b2, hb2⟩ : ∃ b2, b2 = lostAt l q s (k + 1) := ⟨_, rfl⟩
    have HB2 := Lib.hid hb2
    clear hb2
    go_upto_if 54 with fail
    go_cut [7, 38] from 38 to 79 (fun u i wx => u = .bool b2 ∧ i = .int .i64 (k : Int) ∧ wx = wc)
    case first =>
     by_cases hk0 : k = 0
     ·subst hk0
      have hki3 : (0 : Int) = 0 := rfl
      cases b1
      ·go_wp2_with fail
       go_meet
       refine ⟨?_, rfl, rfl⟩
       rw [HQ'.out.2.symm, low_bits (by omega) ((HW.out.drop q) x (List.mem_of_getElem? HX.out)), HB2.out]
       have e0 : decide (val (l.take q) ≠ 0) = false := by have := hL.out; unfold lostAt at this; simp at this; simpa using this
       have e1 : (l.drop q).getD 0 0 = x := by rw [List.getD, HX.out]; rfl
       unfold lostAt
       rw [e0, e1]
       rw [bne_nat]
       rfl
      ·go_wp2_with fail
       go_meet
       exact ⟨by rw [HB2.out]; have := hL.out; unfold lostAt at this ⊢; simp at this; simp [this], rfl, rfl⟩
     ·have hki3 : ¬ ((k : Int) = 0) := by omega
      have hb12 : b1 = b2 := by
       rw [HB2.out, hL.out]; unfold lostAt
       congr 2
       have : 0 < k := by omega
       simp [this]
      subst hb12
      clear hk0
      go_wp2_with fail
      go_meet
      exact ⟨rfl, rfl, rfl⟩
    case rest =>
     obtain ⟨rfl, rfl, rfl⟩ := hcut
     obtain ⟨d, hd⟩ : ∃ d, d = (x / 2 ^ s + y * 2 ^ (64 - s)) % BB := ⟨_, rfl⟩
     have es : n % 64 = s := HQ'.out.2.symm
     have hor : bits .or .u64 ((x : Int) / 2 ^ s) (IntKind.u64.wrap (IntKind.u64.wrap ((y : Int) * 2) * 2 ^ (63 - s))) = (d : Int) := by rw [hd]; exact rs_bits (by omega) (by have := (HW.out.drop q); exact this x (List.mem_of_getElem? HX.out))
     have E1 : Hid ((rsV s (l.drop q)).take (k + 1) = (rsV s (l.drop q)).take k ++ [d]) := Lib.hid (by
      rw [List.take_add_one, rsV_get s _ k x HX.out, hd, HY.out]; rfl)
     have L1 : Hid (((rsV s (l.drop q)).take k).length ≤ 1000000) := Lib.hid (by rw [List.length_take]; omega)
     clear hd es
     go_wp2_with fail
     have ht : (n : Int).tmod 64 = (s : Int) := by rw [Int.tmod_eq_emod_of_nonneg hn0]; exact HQ.out.2
     have ht0 : ¬ ((s : Int) < 0) := by omega
     have ht1 : IntKind.i64.wrap (63 - (s : Int)) = ((63 - s : Nat) : Int) := by rw [IntWalk.i64_in _ (by omega)]; omega
     have ht2 : ¬ (((63 - s : Nat) : Int) < 0) := by omega
     have O2 := Lib.hid hO.out.drew
     have B2 := Lib.hid hB.out.drew
     go_region_law (refine step_app rfl (.tmp 65) (.tmp 77) rfl w.heap.size _ _ _ (by simp [Act.eval, Act.put]) O2.out (by simp [Act.eval, Act.put]) L1.out B2.out.size ?_; intro v' w' own' bel'; replace own' := Lib.hid own'; replace bel' := Lib.hid bel')
     go_wp2_with fail
     go_roundw
     case rel => exact ⟨k + 1, b2, by have := HLT.out; omega, by go_num, rfl, HB2, Lib.hid (by rw [E1.out]; exact own'.out), Lib.hid (bel'.out w (Nat.le_refl _) B2.out)⟩
     case measure => have := HLT.out; simp [intOf]; omega
  ·have hki : ¬ (k : Int) < (r : Int) := by omega
   have hkr : k = r := by omega
   subst hkr
   have hdl : (l.drop q).length = k := by rw [List.length_drop]; have := HR.out; omega
   have EN : 64 * q + s = n := by have := HQ'.out; omega
   have W1 : W64 ((rsV s (l.drop q)).take k) := (rsV_w64 s _).take k
   have hb : b1 = decide (val l % 2 ^ n ≠ 0) := by rw [hL.out]; exact lost_end HW.out q s k n (by omega) (by have := hql.out; omega) EN
   have HBL := Lib.hid hb
   clear hb
   have V1 : Hid (val ((rsV s (l.drop q)).take k) = val l / 2 ^ n) := Lib.hid (by
    rw [List.take_of_length_le (by rw [rsV_len]; omega), rsV_val (HW.out.drop q) s (by omega), ← EN, val_drop HW.out])
   replace W1 := Lib.hid W1
   clear hlt hdl EN
   go_wp2_with fail
   refine (c82b (hO.out.nl W1.out)).mono ?_
   rintro e w2 ⟨rfl, v2, rfl, hv2, hg2⟩
   have HG2 := Lib.hid (fun g hg => hO.out.blk (hg2 g hg))
   clear hg2
   have R2 : Hid (NV wr v2 (val l / 2 ^ n)) := Lib.hid ⟨_, hv2, tn_can _ (Nat.le_refl _), by rw [tn_val _ (Nat.le_refl _), List.take_length, V1.out]⟩
   clear hv2
   go_wp2_with fail
   go_ret2
   exact ⟨hB.out, v2, by rw [← HBL.out]; rfl, R2.out, HG2.out⟩
end Go.Proofs.YtlgencbldbpbdaaGreatDoor
namespace Go.Proofs.YtlgencbldbpbdaaGreatDoor
open Go.RowKit Fl
theorem c81 {w : World} {v : Value} {x n : Nat} (hv : NV w v x) (hs : blen x ≤ 64000) (hn : 64 * (n / 64) < blen x) :
  Calls Tryz.prog 252 #[v, .int .i64 n] w fun e w' => Below w.heap.size w w' ∧ ∃ v', e = .returned (.tuple #[v', .bool (decide (x % 2 ^ n ≠ 0))]) ∧ NV w' v' (x / 2 ^ n) ∧ ∀ g, blk v' = some g → w.heap.size ≤ g := by
 obtain ⟨l, nl, hc, rfl⟩ := hv
 have hlen := len_small nl.1 hc (n := 1000) (by omega)
 have hb : blen (val l) ≤ 64 * l.length := blen_lt _ _ (by rw [← BB_pow]; exact val_lt nl.1)
 obtain ⟨b, o, c, rfl, hcl, hcm, hA⟩ := nl.addr (by omega)
 exact c81s nl.1 hc hA hcl hcm hlen (by omega) (by omega) (by omega)
theorem NV.le {w : World} {v : Value} {n m : Nat} (h : NV w v n) (e : n = m) : NV w v m := e ▸ h
theorem blen_mul (y n : Nat) (h : 0 < y) : blen (y * 2 ^ n) = blen y + n := by
 have := blen_top (r := 0) (m := n) (t := y) (Nat.two_pow_pos n) h
 rw [Nat.zero_add, Nat.mul_comm] at this
 omega
theorem blen_mono {x y : Nat} (h : x ≤ y) : blen x ≤ blen y := blen_lt _ _ (Nat.lt_of_le_of_lt h (lt_blen y))
theorem quo_start (x y n : Nat) (hy : 0 < y) (h : blen x = blen y + n) : QS x y (n + 1) x 0 := by
 refine ⟨?_, by omega, Nat.zero_mod _⟩
 have h1 := lt_blen x
 have h2 := le_blen y hy
 have h3 := blen_pos0 hy
 have h4 : 2 ^ blen x = 2 ^ (blen y - 1) * 2 ^ (n + 1) := by rw [← Nat.pow_add]; congr 1; omega
 have h5 : 2 ^ (blen y - 1) * 2 ^ (n + 1) ≤ y * 2 ^ (n + 1) := Nat.mul_le_mul_right _ h2
 omega
theorem lt_of_blen {x y : Nat} (h : blen x < blen y) : x < y := by
 rcases Nat.lt_or_ge x y with h1 | h1
 ·exact h1
 ·have := blen_mono h1; omega
theorem BdN {B : Nat} {a w : World} (h : Below B a w) (n : Nat) : Below B a (w.drewN n) := ⟨h.os, h.tape, h.output, h.size, h.block⟩
theorem NV.drew1 {w : World} {v : Value} {x : Nat} (h : NV w v x) : NV w.drew v x := h
theorem OU.drew' {w : World} {B : Nat} {v : Value} {l : List Nat} (h : OU w B v l) (m : Nat) : OU (w.drewN m) B v l := h
theorem cmp_ge {a b : Nat} {r : Int} (h : CmpR a b r) (hab : b ≤ a) : 0 ≤ r := by
 rcases Nat.lt_or_eq_of_le hab with h1 | h1
 ·have := h.2.2 h1; omega
 ·have := h.2.1 h1.symm; omega
theorem cmp_lt {a b : Nat} {r : Int} (h : CmpR a b r) (hab : ¬ b ≤ a) : ¬ 0 ≤ r := by
 have := h.1 (by omega); omega
structure QM (w wx : World) (x y k : Nat) (av vq : Value) (m A : Nat) (ql : List Nat) : Prop where
 a : NV wx av A
 s : QS x y k A (val ql)
 o : OU wx w.heap.size vq ql
 w64 : W64 ql
 len : ql.length = m
 b : Below w.heap.size w wx
 z : w.heap.size < wx.heap.size
 pa : ∀ g, blk av = some g → g ≠ w.heap.size
structure QL (w wx : World) (x y k : Nat) (av dv vq : Value) (m A : Nat) (ql : List Nat) : Prop extends QM w wx x y k av vq m A ql where
 d : 0 < k → NV wx dv (y * 2 ^ (k - 1))
 pd : ∀ g, blk dv = some g → g ≠ w.heap.size
theorem NV.blk {w : World} {v : Value} {x : Nat} (h : NV w v x) {g : Nat} (hg : blk v = some g) : g < w.heap.size := by
 obtain ⟨l, ⟨_, h⟩, _⟩ := h
 rcases h with ⟨rfl, _⟩ | ⟨b, o, c, rfl, _, _, h4⟩
 ·cases hg
 ·cases hg; exact h4.1
theorem NV.set {w : World} {v : Value} {x G j : Nat} (h : NV w v x) (hg : ∀ g, Go.Proofs.YtlgencbldbpbdaaGreatDoor.blk v = some g → g ≠ G) (z : Value) : NV (w.setCell ⟨G, j, none⟩ z) v x := by
 obtain ⟨l, ⟨h1, h⟩, h2, h3⟩ := h
 refine ⟨l, ⟨h1, ?_⟩, h2, h3⟩
 rcases h with h | ⟨b, o, c, rfl, h5, h6, h4⟩
 ·exact .inl h
 ·refine .inr ⟨b, o, c, rfl, h5, h6, by simpa using h4.1, fun k y hk => ?_⟩
  rw [World.cell?_setCell_other w _ _ _ (by intro e; have h8 := congrArg Addr.block e; first | exact hg b rfl h8 | exact hg b rfl h8.symm)]
  exact h4.2 k y hk
theorem QM.step {w wx wy : World} {x y k : Nat} {av vq dv : Value} {m A : Nat} {ql : List Nat} (h : QM w wx x y k av vq m A ql) (hb : Below wx.heap.size wx wy) (hd : NV wy dv (y * 2 ^ k / 2 ^ 1)) (hg : ∀ g, blk dv = some g → wx.heap.size ≤ g) : QL w wy x y k av dv vq m A ql := by
 refine ⟨⟨h.a.below hb, h.s, h.o.below hb, h.w64, h.len, h.b.trans (hb.mono (Nat.le_of_lt h.z)), Nat.lt_of_lt_of_le h.z hb.size, h.pa⟩, fun hk => ?_, fun g hgg e => ?_⟩
 ·obtain ⟨i, rfl⟩ : ∃ i, k = i + 1 := ⟨k - 1, by omega⟩
  rw [Nat.pow_one, half_mul] at hd
  exact hd
 ·have h1 := hg g hgg
  have h2 := h.z
  omega
set_option maxRecDepth 100000 in
set_option maxHeartbeats 2000000 in
theorem c39 {w : World} {v u : Value} {x y : Nat} (hv : NV w v x) (hu : NV w u y) (hy : 0 < y) (hs : blen x ≤ 60000) (hs2 : blen y ≤ 60000) :
  Calls Tryz.prog 189 #[v, u] w fun e w' => Below w.heap.size w w' ∧ ∃ v1 v2, e = .returned (.tuple #[v1, v2]) ∧ NV w' v1 (x / y) ∧ NV w' v2 (x % y) := by
 have C1 := Lib.hid (c80 hv (by omega))
 have C2 := Lib.hid (c80 hu (by omega))
 have i1 : (blen x : Int) ≤ 60000 := by omega
 have i2 : (blen y : Int) ≤ 60000 := by omega
 have i3 : (0 : Int) ≤ (blen x : Int) := by omega
 have i4 : (0 : Int) ≤ (blen y : Int) := by omega
 by_cases hlt : blen x < blen y
 ·have hli : (blen x : Int) - (blen y : Int) < 0 := by omega
  have hxy := lt_of_blen hlt
  have HR : Hid (NV w (.slice none 0 0) (x / y) ∧ NV w v (x % y)) := Lib.hid ⟨by rw [Nat.div_eq_of_lt hxy]; exact ⟨[], ⟨fun x hx => (nomatch hx), .inl ⟨rfl, rfl⟩⟩, .inl rfl, rfl⟩, by rw [Nat.mod_eq_of_lt hxy]; exact hv⟩
  clear hv hu hs hs2 hlt hxy hy
  generalize blen x = bx at *
  generalize blen y = bY at *
  go_enter Tryz.func189, Tryz.ntmps189
  go_wp2_with (go_at_call 251; first | (with_reducible refine C1.out.mono ?_; rintro e w' ⟨rfl, rfl⟩) | (with_reducible refine C2.out.mono ?_; rintro e w' ⟨rfl, rfl⟩))
  go_ret2
  exact ⟨Below.refl _ _, _, _, rfl, HR.out.1, HR.out.2⟩
 ·obtain ⟨n, hn⟩ : ∃ n, blen x = blen y + n := ⟨blen x - blen y, by omega⟩
  have ei : (blen x : Int) - (blen y : Int) = (n : Int) := by omega
  have hn2 : (n : Int) ≤ 60000 := by omega
  have hn0 : (0 : Int) ≤ (n : Int) := by omega
  obtain ⟨q, hq⟩ : ∃ q, q = n / 64 := ⟨_, rfl⟩
  have hqn : (n : Int) / 64 = (q : Int) := by omega
  have hq2 : (q : Int) ≤ 1000 := by omega
  have hmk : ∀ wx : World, (Instr.makeSlice 254 (.int .i64 ((n : Int) / 64 + 1)) (.int .i64 ((n : Int) / 64 + 1))).run Tryz.prog wx = .ok (.slice (some ⟨wx.heap.size, 0, none⟩) (q + 1) (q + 1)) (wx.alloc (.cells (madeCells #[.int .u64 0] (q + 1)) 101)) := fun wx => by
   have := run_mk (q + 1) (q + 1) (by omega) (by omega) wx
   push_cast at this
   rw [hqn]
   exact this
  have O0 := Lib.hid (OU.made w (p := q + 1) (q := q + 1) (by omega) (by unfold maxLen; omega) (B := w.heap.size) (Nat.le_refl _))
  have B0 : Hid (Below w.heap.size w (w.alloc (.cells (madeCells #[.int .u64 0] (q + 1)) 101))) := Lib.hid ((Below.refl _ _).alloc (Nat.le_refl _) _)
  have S0 := Lib.hid (quo_start x y n hy hn)
  have Z0 : Hid (w.heap.size < (w.alloc (.cells (madeCells #[.int .u64 0] (q + 1)) 101)).heap.size) := Lib.hid (by simp)
  have HQ := Lib.hid (And.intro hqn hq)
  have hq3 : (n : Int) / 64 ≤ 1000 := by omega
  have HN := Lib.hid (And.intro hn hs)
  have HV := Lib.hid (And.intro hv hu)
  have HY := Lib.hid hy
  clear hqn hq hn hlt hs hs2 hv hu hy
  generalize blen x = bx at C1 C2 i1 i2 i3 i4 ei
  generalize blen y = bY at C1 C2 i1 i2 i3 i4 ei
  go_enter Tryz.func189, Tryz.ntmps189
  go_upto_region 2 with (go_at_call 251; first | (with_reducible refine C1.out.mono ?_; rintro e w' ⟨rfl, rfl⟩) | (with_reducible refine C2.out.mono ?_; rintro e w' ⟨rfl, rfl⟩))
  have CL := Lib.hid (fun (wx : World) (h : Below w.heap.size w wx) => c40b (n := n) (HV.out.2.below h) (by have := HN.out; omega))
  go_upto_region 5 with fail
  generalize w.alloc (.cells (madeCells #[.int .u64 0] (q + 1)) 101) = w1 at *
  go_upto_region 6 with (go_at_call 246; refine (CL.out _ B0.out).mono ?_; rintro e w2 ⟨hb, d0, rfl, hd, hg0⟩; have L0 : Hid (QL w w2 x y (n + 1) v d0 (.slice (some ⟨w.heap.size, 0, none⟩) (q + 1) (q + 1)) (q + 1) x (List.replicate (q + 1) 0)) := Lib.hid ⟨⟨HV.out.1.below (B0.out.trans (hb.mono B0.out.size)), (val_replicate (q + 1)).symm ▸ S0.out, O0.out.below hb, W64.replicate _, List.length_replicate .., B0.out.trans (hb.mono B0.out.size), Nat.lt_of_lt_of_le Z0.out hb.size, fun g hg e => Nat.lt_irrefl _ (e ▸ HV.out.1.blk hg)⟩, fun _ => hd, fun g hg e => by have := hg0 g hg; have := Z0.out; omega⟩; clear hb hd hg0)
  clear hmk O0 B0 S0 Z0 CL C1 C2
  go_wp2_with fail
  go_loopw [0, 8, 9] (fun av dv i wx => ∃ (k A : Nat) (ql : List Nat), k ≤ n + 1 ∧ i = .int .i64 ((k : Int) - 1) ∧ Hid (QL w wx x y k av dv (.slice (some ⟨w.heap.size, 0, none⟩) (q + 1) (q + 1)) (q + 1) A ql)) (fun _ _ i _ => (intOf i + 1).toNat)
  case atStart => exact ⟨n + 1, x, _, Nat.le_refl _, by congr 1; omega, L0⟩
  case round =>
   obtain ⟨k, A, ql, hk, rfl, hL⟩ := hrel
   rcases k with _ | i
   ·have ez : ((0 : Nat) : Int) - 1 = -1 := rfl
    rw [ez]
    have D := hL.out.s.done
    have C := Lib.hid (c82 (hL.out.o.nl hL.out.w64))
    go_wp2_with (go_at_call 253; refine C.out.mono ?_; rintro e w2 ⟨rfl, v2, rfl, hv2⟩; have R2 : Hid (NV wr v2 (x / y)) := Lib.hid ⟨_, hv2, tn_can _ (Nat.le_refl _), by rw [tn_val _ (Nat.le_refl _), List.take_length]; exact D.2⟩; clear hv2 C)
    go_ret2
    exact ⟨hL.out.b, _, _, rfl, R2.out, hL.out.a.le D.1⟩
   ·have ei2 : ((i + 1 : Nat) : Int) - 1 = (i : Int) := by omega
    rw [ei2]
    clear ei2
    have hin : (i : Int) ≤ 60000 := by omega
    have HI := Lib.hid hk
    have hd : NV wr u8 (y * 2 ^ i) := hL.out.d (Nat.succ_pos _)
    have hbA : blen A ≤ 60000 := Nat.le_trans (blen_mono (by have := hL.out.s.sum; omega)) HN.out.2
    have hbD : blen (y * 2 ^ i) ≤ 60000 := by rw [blen_mul y i HY.out]; have := HN.out; omega
    have CM := Lib.hid (c41 hL.out.a hd (by omega) (by omega))
    have HD := Lib.hid (And.intro hd (And.intro hbA hbD))
    clear hd hbA hbD hk
    by_cases hge : y * 2 ^ i ≤ A
    ·have HG := Lib.hid hge
     clear hge
     have CS := Lib.hid (fun m => c61b (hL.out.a.drew m) (HD.out.1.drew m) HG.out (by have := HD.out; omega))
     go_upto_region 11 with (first
      | (go_at_call 194; refine CM.out.mono ?_; rintro e w3 ⟨⟨rc, rfl, hr⟩, m, rfl⟩; have hrc := cmp_ge hr HG.out; clear hr CM)
      | (go_at_call 193; refine (CS.out m).mono ?_; rintro e w4 ⟨hb4, v4, rfl, hv4, hg4⟩; have L4 := Lib.hid (And.intro hb4 (And.intro hv4 hg4)); clear hb4 hv4 hg4 CS))
     obtain ⟨j, hj⟩ : ∃ j, j = i / 64 := ⟨_, rfl⟩
     obtain ⟨t, ht⟩ : ∃ t, t = i % 64 := ⟨_, rfl⟩
     have ht1 : (i : Int).tdiv 64 = (j : Int) := by rw [Int.tdiv_eq_ediv_of_nonneg (by omega)]; omega
     have ht2 : (i : Int).tmod 64 = (t : Int) := by rw [Int.tmod_eq_emod_of_nonneg (by omega)]; omega
     have ht3 : ¬ ((t : Int) < 0) := by omega
     have hjq : j < q + 1 := by have := HQ.out.2; have := HI.out; omega
     have hj2 : (j : Int) < ((q + 1 : Nat) : Int) := by omega
     have hj3 : (j : Int) < (q : Int) + 1 := by omega
     have O4 : OU w4 w.heap.size (.slice (some ⟨w.heap.size, 0, none⟩) (q + 1) (q + 1)) ql := (hL.out.o.drew' m).below L4.out.1
     obtain ⟨xw, hxw⟩ : ∃ xw, ql[j]? = some xw := ⟨ql[j]'(by rw [hL.out.len]; exact hjq), List.getElem?_eq_getElem _⟩
     obtain ⟨kq, kf⟩ := O4.cell hL.out.len.symm hxw
     have HO4 := Lib.hid O4
     have HX := Lib.hid (And.intro hxw (And.intro hj ht))
     clear O4 hxw hj ht
     go_region
     have hmin : min t 64 = t := by have := HX.out.2.2; omega
     rw [hmin]
     have VB := val_bit hL.out.w64 (i := i) (x := xw) (by rw [← HX.out.2.1]; exact HX.out.1) hL.out.s.low
     have e2 : bits .or .u64 (xw : Int) (IntKind.u64.wrap (2 ^ t)) = ((xw ||| 2 ^ t : Nat) : Int) := by
      have h1 : (2 : Nat) ^ t ≤ 2 ^ 63 := Nat.pow_le_pow_right (by decide) (by have := HX.out.2.2; omega)
      have h0 := Nat.two_pow_pos t
      rw [show ((2 : Int) ^ t) = ((2 ^ t : Nat) : Int) from by push_cast; rfl, u64_wrap, Nat.mod_eq_of_lt (show 2 ^ t < BB by unfold BB; omega), u64_or_nat _ _ (show xw < 18446744073709551616 from hL.out.w64 xw (List.mem_of_getElem? HX.out.1)) (by omega)]
     rw [e2]
     rw [← HX.out.2.1, ← HX.out.2.2] at VB
     have L5 : Hid (QM w ((w4.setCell ⟨w.heap.size, j, none⟩ (.int .u64 ((xw ||| 2 ^ t : Nat) : Int))).drew) x y i v4 (.slice (some ⟨w.heap.size, 0, none⟩) (q + 1) (q + 1)) (q + 1) (A - y * 2 ^ i) (ql.set j (xw ||| 2 ^ t)) ∧ NV ((w4.setCell ⟨w.heap.size, j, none⟩ (.int .u64 ((xw ||| 2 ^ t : Nat) : Int))).drew) u8 (y * 2 ^ i)) := Lib.hid (by
      have hd4 : NV w4 u8 (y * 2 ^ i) := (HD.out.1.drew m).below L4.out.1
      have pv4 : ∀ g, blk v4 = some g → g ≠ w.heap.size := fun g hg e => by have h1 := L4.out.2.2 g hg; have h2 := hL.out.z; have h3 : (wr.drewN m).heap.size = wr.heap.size := rfl; omega
      have z4 : w.heap.size < w4.heap.size := Nat.lt_of_lt_of_le hL.out.z L4.out.1.size
      refine ⟨⟨(L4.out.2.1.set pv4 _).drew1, ?_, (HO4.out.put hL.out.len.symm (by rw [hL.out.len]; exact hjq) _).drew, hL.out.w64.set VB.2, by rw [List.length_set]; exact hL.out.len, (((BdN hL.out.b m).trans (L4.out.1.mono (Nat.le_of_lt hL.out.z))).setCell (Nat.le_refl _) _).drew, by simpa using z4, pv4⟩, (hd4.set hL.out.pd _).drew1⟩
      ·rw [VB.1]; exact hL.out.s.take HG.out)
     generalize ((w4.setCell ⟨w.heap.size, j, none⟩ (.int .u64 ((xw ||| 2 ^ t : Nat) : Int))).drew) = w5 at *
     clear HO4 kq kf
     have CR : Hid (Calls Tryz.prog 252 #[u8, .int .i64 1] w5 _) := Lib.hid (c81 (n := 1) L5.out.2 (by have := HD.out; omega) (by have := blen_pos0 (Nat.mul_pos HY.out (Nat.two_pow_pos i)); simpa using this))
     go_wp2_with (go_at_call 252; refine CR.out.mono ?_; rintro e w6 ⟨hb6, d6, rfl, hd6, hg6⟩; have L6 := Lib.hid (And.intro hb6 (And.intro hd6 hg6)); clear hb6 hd6 hg6 CR)
     go_roundw
     case rel => exact ⟨i, A - y * 2 ^ i, _, by have := HI.out; omega, rfl, Lib.hid (L5.out.1.step L6.out.1 L6.out.2.1 L6.out.2.2)⟩
     case measure => simp [intOf]
    ·have HG := Lib.hid hge
     clear hge
     have L5 : Hid (∀ m, QM w (wr.drewN m) x y i u0 (.slice (some ⟨w.heap.size, 0, none⟩) (q + 1) (q + 1)) (q + 1) A ql ∧ NV (wr.drewN m) u8 (y * 2 ^ i)) := Lib.hid fun m => ⟨⟨hL.out.a.drew m, hL.out.s.skip (Nat.lt_of_not_le HG.out), hL.out.o.drew' m, hL.out.w64, hL.out.len, BdN hL.out.b m, hL.out.z, hL.out.pa⟩, HD.out.1.drew m⟩
     have CR := Lib.hid (fun m => c81 (n := 1) (L5.out m).2 (by have := HD.out; omega) (by have := blen_pos0 (Nat.mul_pos HY.out (Nat.two_pow_pos i)); simpa using this))
     go_wp2_with (first
      | (go_at_call 194; refine CM.out.mono ?_; rintro e w3 ⟨⟨rc, rfl, hr⟩, m, rfl⟩; have hrc := cmp_lt hr HG.out; clear hr CM)
      | (go_at_call 252; refine (CR.out m).mono ?_; rintro e w6 ⟨hb6, d6, rfl, hd6, hg6⟩; have L6 := Lib.hid (And.intro hb6 (And.intro hd6 hg6)); clear hb6 hd6 hg6 CR))
     go_roundw
     case rel => exact ⟨i, A, _, by have := HI.out; omega, rfl, Lib.hid ((L5.out m).1.step L6.out.1 L6.out.2.1 L6.out.2.2)⟩
     case measure => simp [intOf]
end Go.Proofs.YtlgencbldbpbdaaGreatDoor
namespace Go.Proofs.YtlgencbldbpbdaaGreatDoor
open Go.RowKit Fl
theorem xAdd (x y c : Nat) (hc : c ≤ 1) (w : World) : (callFunc 286 #[.int .u64 x, .int .u64 y, .int .u64 c]).run Tryz.prog w = .ok (.value (.tuple #[.int .u64 (((x + y + c) % BB : Nat) : Int), .int .u64 (((x + y + c) / BB : Nat) : Int)])) w := by
 rw [run_callFunc_extern (P := Tryz.prog) (f := 286) (fn := Tryz.f286) (e := add64Entry) (by kernel_rfl) (by kernel_rfl) (by kernel_rfl) (by kernel_rfl) (by kernel_rfl)]
 have : c = 0 ∨ c = 1 := by omega
 rcases this with rfl | rfl <;> rfl
set_option maxRecDepth 100000 in
set_option maxHeartbeats 2000000 in
theorem lAddGE {w : World} {v u : Value} {a b : List Nat} (na : NL w v a) (nb : NL w u b) (hba : b.length ≤ a.length) (hl : a.length ≤ 1000) :
  Calls Tryz.prog 249 #[v, u] w fun e w' => Below w.heap.size w w' ∧ ∃ v', e = .returned v' ∧ NV w' v' (val a + val b) ∧ ∀ g, blk v' = some g → w.heap.size ≤ g := by
 have la2 : (a.length : Int) ≤ 1000 := by omega
 have lb2 : (b.length : Int) ≤ (a.length : Int) := by omega
 have lswap : ¬ (a.length : Int) < (b.length : Int) := by omega
 have HW := Lib.hid na.1
 have HV := Lib.hid nb.1
 have NA' := Lib.hid na
 have NB' := Lib.hid nb
 have V1 := Lib.hid (ad_val na.1 nb.1 (by omega))
 obtain ⟨A, ac, rfl⟩ := na.form
 obtain ⟨B, bc, rfl⟩ := nb.form
 have hmk : ∀ wx : World, (Instr.makeSlice 254 (.int .i64 0) (.int .i64 ((a.length : Int) + 1))).run Tryz.prog wx = .ok (.slice (some ⟨wx.heap.size, 0, none⟩) 0 (a.length + 1)) (wx.alloc (.cells (madeCells #[.int .u64 0] (a.length + 1)) 101)) := fun wx => by
  have := run_mk 0 (a.length + 1) (by omega) (by omega) wx
  push_cast at this
  exact this
 have O0 := Lib.hid (OU.made w (p := 0) (q := a.length + 1) (by omega) (by unfold maxLen; omega) (B := w.heap.size) (Nat.le_refl _))
 have B0 : Hid (Below w.heap.size w (w.alloc (.cells (madeCells #[.int .u64 0] (a.length + 1)) 101))) := Lib.hid ((Below.refl _ _).alloc (Nat.le_refl _) _)
 clear na nb hba hl
 go_enter Tryz.func249, Tryz.ntmps249
 go_upto_region 4 with fail
 generalize w.alloc (.cells (madeCells #[.int .u64 0] (a.length + 1)) 101) = w1 at *
 generalize (Value.slice (some ⟨w.heap.size, 0, none⟩) 0 (a.length + 1)) = v1 at *
 go_wp2_with fail
 go_loopw [5, 6, 24] (fun v lo i wx => ∃ k : Nat, k ≤ a.length ∧ i = .int .i64 k ∧ lo = .int .u64 ((crw (adF a b) 0 k).2 : Nat) ∧ Hid (OU wx w.heap.size v (crw (adF a b) 0 k).1) ∧ Hid (Below w.heap.size w wx)) (fun _ _ i _ => a.length - (intOf i).toNat)
 case atStart => exact ⟨0, Nat.zero_le _, rfl, rfl, O0, B0⟩
 case round =>
  obtain ⟨k, hk, rfl, rfl, hO, hB⟩ := hrel
  by_cases hlt : k < a.length
  ·have hki : (k : Int) < (a.length : Int) := by omega
   obtain ⟨b1, o1, c1, e1, q1, q2, hA⟩ := (NA'.out.below hB.out).addr (by omega)
   cases e1
   obtain ⟨x, hx⟩ : ∃ x, a[k]? = some x := ⟨a[k], List.getElem?_eq_getElem hlt⟩
   have kc := hA.2 k x hx
   have hgd : a.getD k 0 = x := by rw [List.getD, hx]; rfl
   have hxB : x < BB := HW.out x (List.mem_of_getElem? hx)
   have hcl := ad_carry HW.out HV.out k
   have HLT := Lib.hid hlt
   have L1 : Hid ((crw (adF a b) 0 k).1.length ≤ 1000000) := Lib.hid (by rw [cr_len]; omega)
   obtain ⟨y, hy⟩ : ∃ y, y = b.getD k 0 := ⟨_, rfl⟩
   have hyB : y < BB := by rw [hy]; exact HV.out.getD k
   have E1 : Hid ((crw (adF a b) 0 (k + 1)).1 = (crw (adF a b) 0 k).1 ++ [(x + y + (crw (adF a b) 0 k).2) % BB]) := Lib.hid (by rw [crw, adF, hgd, hy])
   have E2 : Hid ((crw (adF a b) 0 (k + 1)).2 = (x + y + (crw (adF a b) 0 k).2) / BB) := Lib.hid (by rw [crw, adF, hgd, hy])
   obtain ⟨lo, hlo⟩ : ∃ lo, lo = (crw (adF a b) 0 k).2 := ⟨_, rfl⟩
   rw [← hlo] at hcl E1 E2 ⊢
   have h83 := xAdd x y lo hcl
   obtain ⟨d, hd⟩ : ∃ d, d = (x + y + lo) % BB := ⟨_, rfl⟩
   obtain ⟨c2, hc2⟩ : ∃ c2, c2 = (x + y + lo) / BB := ⟨_, rfl⟩
   rw [← hd, ← hc2] at h83
   rw [← hd] at E1
   rw [← hc2] at E2
   by_cases hkb : k < b.length
   ·have hkbi : (k : Int) < (b.length : Int) := by omega
    obtain ⟨b2, o2, c3, e2, q3, q4, hA2⟩ := (NB'.out.below hB.out).addr (by omega)
    cases e2
    have hy2 : b[k]? = some y := by rw [hy, List.getD, List.getElem?_eq_getElem hkb]; rfl
    have ky := hA2.2 k y hy2
    clear hx hgd hcl hlo hlt hd hc2 hA hA2 q1 q2 q3 q4 hy hy2 hkb hxB hyB
    go_wp2_with (at_builtin; refine wpList_app rfl (.tmp 44) (.tmp 46) rfl w.heap.size _ _ _ rfl hO.out rfl L1.out hB.out.size ?_; intro v' w' own' bel' siz'; replace own' := Lib.hid own'; replace bel' := Lib.hid bel'; clear siz')
    go_roundw
    case rel => exact ⟨k + 1, by have := HLT.out; omega, by go_num, by rw [E2.out], Lib.hid (by rw [E1.out]; exact own'.out), Lib.hid (bel'.out w (Nat.le_refl _) hB.out)⟩
    case measure => have := HLT.out; simp [intOf]; omega
   ·have hkbi : ¬ (k : Int) < (b.length : Int) := by omega
    have hy0 : y = 0 := by rw [hy, List.getD, List.getElem?_eq_none (by omega)]; rfl
    have h83' : ∀ w : World, (callFunc 286 #[.int .u64 x, .int .u64 0, .int .u64 lo]).run Tryz.prog w = .ok (.value (.tuple #[.int .u64 (d : Int), .int .u64 (c2 : Int)])) w := by
     intro w2
     have := h83 w2
     rw [hy0] at this
     exact this
    clear hx hgd hcl hlo hlt hd hc2 hA q1 q2 hy hy0 hkb h83 hxB hyB
    go_wp2_with (at_builtin; refine wpList_app rfl (.tmp 44) (.tmp 46) rfl w.heap.size _ _ _ rfl hO.out rfl L1.out hB.out.size ?_; intro v' w' own' bel' siz'; replace own' := Lib.hid own'; replace bel' := Lib.hid bel'; clear siz')
    go_roundw
    case rel => exact ⟨k + 1, by have := HLT.out; omega, by go_num, by rw [E2.out], Lib.hid (by rw [E1.out]; exact own'.out), Lib.hid (bel'.out w (Nat.le_refl _) hB.out)⟩
    case measure => have := HLT.out; simp [intOf]; omega
  ·have hki : ¬ (k : Int) < (a.length : Int) := by omega
   have hkl : k = a.length := by omega
   subst hkl
   have L1 : Hid ((crw (adF a b) 0 a.length).1.length ≤ 1000000) := Lib.hid (by rw [cr_len]; omega)
   have W1 : Hid (W64 ((crw (adF a b) 0 a.length).1 ++ [(crw (adF a b) 0 a.length).2])) := Lib.hid ((cr_w64 (fun k c => Nat.mod_lt _ BB_pos) _).append fun z hz => by
    rw [List.mem_singleton.1 hz]
    have := ad_carry HW.out HV.out a.length
    unfold BB; omega)
   clear hlt
   go_wp2_with (at_builtin; refine wpList_app rfl (.tmp 49) (.tmp 51) rfl w.heap.size _ _ _ rfl hO.out rfl L1.out hB.out.size ?_; intro v' w' own' bel' siz'; replace own' := Lib.hid own'; replace bel' := Lib.hid bel'; clear siz')
   refine (c82b (own'.out.nl W1.out)).mono ?_
   rintro e w2 ⟨rfl, v2, rfl, hv2, hg2⟩
   have HG2 := Lib.hid (fun g hg => own'.out.blk (hg2 g hg))
   have R2 : Hid (NV w' v2 (val a + val b)) := Lib.hid ⟨_, hv2, tn_can _ (Nat.le_refl _), by rw [tn_val _ (Nat.le_refl _), List.take_length, V1.out]⟩
   clear hv2 hg2
   go_wp2_with fail
   go_ret
   exact ⟨bel'.out w (Nat.le_refl _) hB.out, _, rfl, R2.out, HG2.out⟩
set_option maxRecDepth 100000 in
set_option maxHeartbeats 2000000 in
theorem lAddLT {w : World} {v u : Value} {a b : List Nat} (na : NL w v a) (nb : NL w u b) (hba : b.length < a.length) (hl : a.length ≤ 1000) :
  Calls Tryz.prog 249 #[u, v] w fun e w' => Below w.heap.size w w' ∧ ∃ v', e = .returned v' ∧ NV w' v' (val a + val b) ∧ ∀ g, blk v' = some g → w.heap.size ≤ g := by
 have la2 : (a.length : Int) ≤ 1000 := by omega
 have lb2 : (b.length : Int) ≤ (a.length : Int) := by omega
 have lswap : (b.length : Int) < (a.length : Int) := by omega
 have HW := Lib.hid na.1
 have HV := Lib.hid nb.1
 have NA' := Lib.hid na
 have NB' := Lib.hid nb
 have V1 := Lib.hid (ad_val na.1 nb.1 (by omega))
 obtain ⟨A, ac, rfl⟩ := na.form
 obtain ⟨B, bc, rfl⟩ := nb.form
 have hmk : ∀ wx : World, (Instr.makeSlice 254 (.int .i64 0) (.int .i64 ((a.length : Int) + 1))).run Tryz.prog wx = .ok (.slice (some ⟨wx.heap.size, 0, none⟩) 0 (a.length + 1)) (wx.alloc (.cells (madeCells #[.int .u64 0] (a.length + 1)) 101)) := fun wx => by
  have := run_mk 0 (a.length + 1) (by omega) (by omega) wx
  push_cast at this
  exact this
 have O0 := Lib.hid (OU.made w (p := 0) (q := a.length + 1) (by omega) (by unfold maxLen; omega) (B := w.heap.size) (Nat.le_refl _))
 have B0 : Hid (Below w.heap.size w (w.alloc (.cells (madeCells #[.int .u64 0] (a.length + 1)) 101))) := Lib.hid ((Below.refl _ _).alloc (Nat.le_refl _) _)
 clear na nb hba hl
 go_enter Tryz.func249, Tryz.ntmps249
 go_upto_region 4 with fail
 generalize w.alloc (.cells (madeCells #[.int .u64 0] (a.length + 1)) 101) = w1 at *
 generalize (Value.slice (some ⟨w.heap.size, 0, none⟩) 0 (a.length + 1)) = v1 at *
 go_wp2_with fail
 go_loopw [5, 6, 24] (fun v lo i wx => ∃ k : Nat, k ≤ a.length ∧ i = .int .i64 k ∧ lo = .int .u64 ((crw (adF a b) 0 k).2 : Nat) ∧ Hid (OU wx w.heap.size v (crw (adF a b) 0 k).1) ∧ Hid (Below w.heap.size w wx)) (fun _ _ i _ => a.length - (intOf i).toNat)
 case atStart => exact ⟨0, Nat.zero_le _, rfl, rfl, O0, B0⟩
 case round =>
  obtain ⟨k, hk, rfl, rfl, hO, hB⟩ := hrel
  by_cases hlt : k < a.length
  ·have hki : (k : Int) < (a.length : Int) := by omega
   obtain ⟨b1, o1, c1, e1, q1, q2, hA⟩ := (NA'.out.below hB.out).addr (by omega)
   cases e1
   obtain ⟨x, hx⟩ : ∃ x, a[k]? = some x := ⟨a[k], List.getElem?_eq_getElem hlt⟩
   have kc := hA.2 k x hx
   have hgd : a.getD k 0 = x := by rw [List.getD, hx]; rfl
   have hxB : x < BB := HW.out x (List.mem_of_getElem? hx)
   have hcl := ad_carry HW.out HV.out k
   have HLT := Lib.hid hlt
   have L1 : Hid ((crw (adF a b) 0 k).1.length ≤ 1000000) := Lib.hid (by rw [cr_len]; omega)
   obtain ⟨y, hy⟩ : ∃ y, y = b.getD k 0 := ⟨_, rfl⟩
   have hyB : y < BB := by rw [hy]; exact HV.out.getD k
   have E1 : Hid ((crw (adF a b) 0 (k + 1)).1 = (crw (adF a b) 0 k).1 ++ [(x + y + (crw (adF a b) 0 k).2) % BB]) := Lib.hid (by rw [crw, adF, hgd, hy])
   have E2 : Hid ((crw (adF a b) 0 (k + 1)).2 = (x + y + (crw (adF a b) 0 k).2) / BB) := Lib.hid (by rw [crw, adF, hgd, hy])
   obtain ⟨lo, hlo⟩ : ∃ lo, lo = (crw (adF a b) 0 k).2 := ⟨_, rfl⟩
   rw [← hlo] at hcl E1 E2 ⊢
   have h83 := xAdd x y lo hcl
   obtain ⟨d, hd⟩ : ∃ d, d = (x + y + lo) % BB := ⟨_, rfl⟩
   obtain ⟨c2, hc2⟩ : ∃ c2, c2 = (x + y + lo) / BB := ⟨_, rfl⟩
   rw [← hd, ← hc2] at h83
   rw [← hd] at E1
   rw [← hc2] at E2
   by_cases hkb : k < b.length
   ·have hkbi : (k : Int) < (b.length : Int) := by omega
    obtain ⟨b2, o2, c3, e2, q3, q4, hA2⟩ := (NB'.out.below hB.out).addr (by omega)
    cases e2
    have hy2 : b[k]? = some y := by rw [hy, List.getD, List.getElem?_eq_getElem hkb]; rfl
    have ky := hA2.2 k y hy2
    clear hx hgd hcl hlo hlt hd hc2 hA hA2 q1 q2 q3 q4 hy hy2 hkb hxB hyB
    go_wp2_with (at_builtin; refine wpList_app rfl (.tmp 44) (.tmp 46) rfl w.heap.size _ _ _ rfl hO.out rfl L1.out hB.out.size ?_; intro v' w' own' bel' siz'; replace own' := Lib.hid own'; replace bel' := Lib.hid bel'; clear siz')
    go_roundw
    case rel => exact ⟨k + 1, by have := HLT.out; omega, by go_num, by rw [E2.out], Lib.hid (by rw [E1.out]; exact own'.out), Lib.hid (bel'.out w (Nat.le_refl _) hB.out)⟩
    case measure => have := HLT.out; simp [intOf]; omega
   ·have hkbi : ¬ (k : Int) < (b.length : Int) := by omega
    have hy0 : y = 0 := by rw [hy, List.getD, List.getElem?_eq_none (by omega)]; rfl
    have h83' : ∀ w : World, (callFunc 286 #[.int .u64 x, .int .u64 0, .int .u64 lo]).run Tryz.prog w = .ok (.value (.tuple #[.int .u64 (d : Int), .int .u64 (c2 : Int)])) w := by
     intro w2
     have := h83 w2
     rw [hy0] at this
     exact this
    clear hx hgd hcl hlo hlt hd hc2 hA q1 q2 hy hy0 hkb h83 hxB hyB
    go_wp2_with (at_builtin; refine wpList_app rfl (.tmp 44) (.tmp 46) rfl w.heap.size _ _ _ rfl hO.out rfl L1.out hB.out.size ?_; intro v' w' own' bel' siz'; replace own' := Lib.hid own'; replace bel' := Lib.hid bel'; clear siz')
    go_roundw
    case rel => exact ⟨k + 1, by have := HLT.out; omega, by go_num, by rw [E2.out], Lib.hid (by rw [E1.out]; exact own'.out), Lib.hid (bel'.out w (Nat.le_refl _) hB.out)⟩
    case measure => have := HLT.out; simp [intOf]; omega
  ·have hki : ¬ (k : Int) < (a.length : Int) := by omega
   have hkl : k = a.length := by omega
   subst hkl
   have L1 : Hid ((crw (adF a b) 0 a.length).1.length ≤ 1000000) := Lib.hid (by rw [cr_len]; omega)
   have W1 : Hid (W64 ((crw (adF a b) 0 a.length).1 ++ [(crw (adF a b) 0 a.length).2])) := Lib.hid ((cr_w64 (fun k c => Nat.mod_lt _ BB_pos) _).append fun z hz => by
    rw [List.mem_singleton.1 hz]
    have := ad_carry HW.out HV.out a.length
    unfold BB; omega)
   clear hlt
   go_wp2_with (at_builtin; refine wpList_app rfl (.tmp 49) (.tmp 51) rfl w.heap.size _ _ _ rfl hO.out rfl L1.out hB.out.size ?_; intro v' w' own' bel' siz'; replace own' := Lib.hid own'; replace bel' := Lib.hid bel'; clear siz')
   refine (c82b (own'.out.nl W1.out)).mono ?_
   rintro e w2 ⟨rfl, v2, rfl, hv2, hg2⟩
   have HG2 := Lib.hid (fun g hg => own'.out.blk (hg2 g hg))
   have R2 : Hid (NV w' v2 (val a + val b)) := Lib.hid ⟨_, hv2, tn_can _ (Nat.le_refl _), by rw [tn_val _ (Nat.le_refl _), List.take_length, V1.out]⟩
   clear hv2 hg2
   go_wp2_with fail
   go_ret
   exact ⟨bel'.out w (Nat.le_refl _) hB.out, _, rfl, R2.out, HG2.out⟩
theorem lAdd {w : World} {v u : Value} {x y : Nat} (hv : NV w v x) (hu : NV w u y) (hx : blen x ≤ 64000) (hy : blen y ≤ 64000) :
  Calls Tryz.prog 249 #[v, u] w fun e w' => Below w.heap.size w w' ∧ ∃ v', e = .returned v' ∧ NV w' v' (x + y) ∧ ∀ g, blk v' = some g → w.heap.size ≤ g := by
 obtain ⟨a, na, ca, rfl⟩ := hv
 obtain ⟨b, nb, cb, rfl⟩ := hu
 have la := len_small na.1 ca (n := 1000) hx
 have lb := len_small nb.1 cb (n := 1000) hy
 rcases Nat.lt_or_ge a.length b.length with h | h
 ·rw [Nat.add_comm]; exact lAddLT nb na h lb
 ·exact lAddGE na nb h la
end Go.Proofs.YtlgencbldbpbdaaGreatDoor
namespace Go.Proofs.YtlgencbldbpbdaaGreatDoor
open Go.RowKit Fl
theorem part_le {a b : Nat} (ha : a < 4294967296) (hb : b < 4294967296) : a * b ≤ 18446744065119617025 := by
 have := Nat.mul_le_mul (show a ≤ 4294967295 by omega) (show b ≤ 4294967295 by omega)
 omega
theorem wrap_part {a b p : Nat} (h : p = a * b) (hp : p ≤ 18446744065119617025) : IntKind.u64.wrap ((a : Int) * (b : Int)) = (p : Int) := by
 rw [show ((a : Int) * (b : Int)) = ((a * b : Nat) : Int) from by push_cast; rfl, ← h, u64_wrap, Nat.mod_eq_of_lt (by unfold BB; omega)]
theorem and32 (n : Nat) (h : n < BB) : bits .and .u64 (n : Int) 4294967295 = ((n % 4294967296 : Nat) : Int) := by
 rw [show (4294967295 : Int) = ((4294967295 : Nat) : Int) from rfl, u64_and_nat _ _ h (by decide)]
 congr 1
 exact Nat.and_two_pow_sub_one_eq_mod n 32
theorem mul_parts (x1 x0 y1 y0 : Nat) : (x1 * 4294967296 + x0) * (y1 * 4294967296 + y0) = x1 * y1 * 18446744073709551616 + (x1 * y0 + x0 * y1) * 4294967296 + x0 * y0 := by
 have e : (18446744073709551616 : Nat) = 4294967296 * 4294967296 := by decide
 rw [e]
 generalize 4294967296 = B
 grind
set_option maxRecDepth 100000 in
set_option maxHeartbeats 1000000 in
theorem lMul64 (x y : Nat) (w : World) (hx : x < BB) (hy : y < BB) : Calls Tryz.prog 260 #[.int .u64 x, .int .u64 y] w fun e w' => e = .returned (.tuple #[.int .u64 ((x * y / BB : Nat) : Int), .int .u64 ((x * y % BB : Nat) : Int)]) ∧ w = w' := by
 have a1 := and32 x hx
 have a2 := and32 y hy
 have d1 : (x : Int) / 4294967296 = ((x / 4294967296 : Nat) : Int) := by omega
 have d2 : (y : Int) / 4294967296 = ((y / 4294967296 : Nat) : Int) := by omega
 have hl : IntKind.u64.wrap ((x : Int) * (y : Int)) = ((x * y % BB : Nat) : Int) := by
  rw [show ((x : Int) * (y : Int)) = ((x * y : Nat) : Int) from by push_cast; rfl, u64_wrap]
 have MP := mul_parts (x / 4294967296) (x % 4294967296) (y / 4294967296) (y % 4294967296)
 rw [show x / 4294967296 * 4294967296 + x % 4294967296 = x by omega, show y / 4294967296 * 4294967296 + y % 4294967296 = y by omega] at MP
 have b1 : x / 4294967296 < 4294967296 := by unfold BB at hx; omega
 have b2 : x % 4294967296 < 4294967296 := Nat.mod_lt _ (by decide)
 have b3 : y / 4294967296 < 4294967296 := by unfold BB at hy; omega
 have b4 : y % 4294967296 < 4294967296 := Nat.mod_lt _ (by decide)
 generalize x / 4294967296 = x1 at *
 generalize x % 4294967296 = x0 at *
 generalize y / 4294967296 = y1 at *
 generalize y % 4294967296 = y0 at *
 obtain ⟨p11, h11⟩ : ∃ p, p = x1 * y1 := ⟨_, rfl⟩
 obtain ⟨p10, h10⟩ : ∃ p, p = x1 * y0 := ⟨_, rfl⟩
 obtain ⟨p01, h01⟩ : ∃ p, p = x0 * y1 := ⟨_, rfl⟩
 obtain ⟨p00, h00⟩ : ∃ p, p = x0 * y0 := ⟨_, rfl⟩
 have l11 : p11 ≤ 18446744065119617025 := h11 ▸ part_le b1 b3
 have l10 : p10 ≤ 18446744065119617025 := h10 ▸ part_le b1 b4
 have l01 : p01 ≤ 18446744065119617025 := h01 ▸ part_le b2 b3
 have l00 : p00 ≤ 18446744065119617025 := h00 ▸ part_le b2 b4
 have w11 := wrap_part h11 l11
 have w10 := wrap_part h10 l10
 have w01 := wrap_part h01 l01
 have w00 := wrap_part h00 l00
 rw [← h11, ← h10, ← h01, ← h00] at MP
 obtain ⟨t, ht⟩ : ∃ t, t = p10 + p00 / 4294967296 := ⟨_, rfl⟩
 have et : (p10 : Int) + (p00 : Int) / 4294967296 = (t : Int) := by omega
 have lt1 : t < BB := by unfold BB; omega
 have a3 := and32 t lt1
 obtain ⟨t0, ht0⟩ : ∃ u, u = t % 4294967296 := ⟨_, rfl⟩
 rw [← ht0] at a3
 have lt2 : (t : Int) ≤ 18446744073709551615 := by unfold BB at lt1; omega
 have lt3 : (t0 : Int) ≤ 4294967295 := by omega
 have i1 : (p11 : Int) ≤ 18446744065119617025 := by omega
 have i2 : (p10 : Int) ≤ 18446744065119617025 := by omega
 have i3 : (p01 : Int) ≤ 18446744065119617025 := by omega
 have i4 : (p00 : Int) ≤ 18446744065119617025 := by omega
 have HI : Hid ((p11 : Int) + (t : Int) / 4294967296 + ((t0 : Int) + (p01 : Int)) / 4294967296 = ((x * y / BB : Nat) : Int)) := Lib.hid (by rw [MP]; unfold BB; omega)
 clear MP h11 h10 h01 h00 l11 l10 l01 l00 b1 b2 b3 b4 hx hy ht ht0 lt1
 generalize x * y / BB = hi at *
 generalize x * y % BB = lo at *
 go_enter Tryz.func260, Tryz.ntmps260
 go_wp2
 rw [HI.out]
 go_ret2
 exact ⟨rfl, rfl⟩
end Go.Proofs.YtlgencbldbpbdaaGreatDoor
namespace Go.Proofs.YtlgencbldbpbdaaGreatDoor
open Go.RowKit Fl
theorem mul_small {x m : Nat} (hx : x < BB) (hm : m < BB) : x * m + BB ≤ BB * BB := by
 have h1 : x * m ≤ (BB - 1) * BB := Nat.mul_le_mul (by omega) (Nat.le_of_lt hm)
 rw [Nat.sub_mul, Nat.one_mul] at h1
 have h2 : BB ≤ BB * BB := by decide
 omega
theorem times_step (p lo : Nat) (hlo : lo < BB) (hp : p + BB ≤ BB * BB) : (p % BB + lo) % BB = (p + lo) % BB ∧ (p / BB + (p % BB + lo) / BB) % BB = (p + lo) / BB := by
 unfold BB at *
 omega
set_option maxRecDepth 100000 in
set_option maxHeartbeats 2000000 in
theorem lTimesL {w : World} {v : Value} {a : List Nat} {m c0 : Nat} (na : NL w v a) (hm : m < BB) (hc0 : c0 < BB) (hl : a.length ≤ 1000) :
  Calls Tryz.prog 250 #[v, .int .u64 m, .int .u64 c0] w fun e w' => Below w.heap.size w w' ∧ ∃ v', e = .returned v' ∧ NV w' v' (val a * m + c0) ∧ ∀ g, blk v' = some g → w.heap.size ≤ g := by
 have la2 : (a.length : Int) ≤ 1000 := by omega
 have HW := Lib.hid na.1
 have HV := Lib.hid (And.intro hm hc0)
 have NA' := Lib.hid na
 have V1 := Lib.hid (tm_val (a := a) (m := m) (c0 := c0))
 obtain ⟨A, ac, rfl⟩ := na.form
 have hmk : ∀ wx : World, (Instr.makeSlice 254 (.int .i64 0) (.int .i64 ((a.length : Int) + 1))).run Tryz.prog wx = .ok (.slice (some ⟨wx.heap.size, 0, none⟩) 0 (a.length + 1)) (wx.alloc (.cells (madeCells #[.int .u64 0] (a.length + 1)) 101)) := fun wx => by
  have := run_mk 0 (a.length + 1) (by omega) (by omega) wx
  push_cast at this
  exact this
 have O0 := Lib.hid (OU.made w (p := 0) (q := a.length + 1) (by omega) (by unfold maxLen; omega) (B := w.heap.size) (Nat.le_refl _))
 have B0 : Hid (Below w.heap.size w (w.alloc (.cells (madeCells #[.int .u64 0] (a.length + 1)) 101))) := Lib.hid ((Below.refl _ _).alloc (Nat.le_refl _) _)
 clear na hm hc0 hl
 go_enter Tryz.func250, Tryz.ntmps250
 go_upto_region 2 with fail
 generalize w.alloc (.cells (madeCells #[.int .u64 0] (a.length + 1)) 101) = w1 at *
 generalize (Value.slice (some ⟨w.heap.size, 0, none⟩) 0 (a.length + 1)) = v1 at *
 go_wp2_with fail
 go_loopw [2, 7, 19] (fun lo v i wx => ∃ k : Nat, k ≤ a.length ∧ i = .int .i64 k ∧ lo = .int .u64 ((crw (tmF a m) c0 k).2 : Nat) ∧ Hid (OU wx w.heap.size v (crw (tmF a m) c0 k).1) ∧ Hid (Below w.heap.size w wx)) (fun _ _ i _ => a.length - (intOf i).toNat)
 case atStart => exact ⟨0, Nat.zero_le _, rfl, rfl, O0, B0⟩
 case round =>
  obtain ⟨k, hk, rfl, rfl, hO, hB⟩ := hrel
  by_cases hlt : k < a.length
  ·have hki : (k : Int) < (a.length : Int) := by omega
   obtain ⟨b1, o1, c1, e1, q1, q2, hA⟩ := (NA'.out.below hB.out).addr (by omega)
   cases e1
   obtain ⟨x, hx⟩ : ∃ x, a[k]? = some x := ⟨a[k], List.getElem?_eq_getElem hlt⟩
   have kc := hA.2 k x hx
   have hgd : a.getD k 0 = x := by rw [List.getD, hx]; rfl
   have hxB : x < BB := HW.out x (List.mem_of_getElem? hx)
   have hcl := tm_carry HW.out HV.out.1 HV.out.2 k
   have HLT := Lib.hid hlt
   have L1 : Hid ((crw (tmF a m) c0 k).1.length ≤ 1000000) := Lib.hid (by rw [cr_len]; omega)
   have E1 : Hid ((crw (tmF a m) c0 (k + 1)).1 = (crw (tmF a m) c0 k).1 ++ [(x * m + (crw (tmF a m) c0 k).2) % BB]) := Lib.hid (by rw [crw, tmF, hgd])
   have E2 : Hid ((crw (tmF a m) c0 (k + 1)).2 = (x * m + (crw (tmF a m) c0 k).2) / BB) := Lib.hid (by rw [crw, tmF, hgd])
   obtain ⟨lo, hlo⟩ : ∃ lo, lo = (crw (tmF a m) c0 k).2 := ⟨_, rfl⟩
   rw [← hlo] at hcl E1 E2 ⊢
   have CM := Lib.hid (fun w => lMul64 x m w hxB HV.out.1)
   obtain ⟨hi, hhi⟩ : ∃ z, z = x * m / BB := ⟨_, rfl⟩
   obtain ⟨l0, hl0⟩ : ∃ z, z = x * m % BB := ⟨_, rfl⟩
   rw [← hhi, ← hl0] at CM
   have h83 := xAdd l0 lo 0 (by omega)
   rw [Nat.add_zero] at h83
   have S := times_step (x * m) lo hcl (mul_small hxB HV.out.1)
   rw [← hhi, ← hl0] at S
   obtain ⟨d, hd⟩ : ∃ d, d = (x * m + lo) % BB := ⟨_, rfl⟩
   obtain ⟨c2, hc2⟩ : ∃ c2, c2 = (x * m + lo) / BB := ⟨_, rfl⟩
   rw [← hd] at E1
   rw [← hc2] at E2
   rw [← hd, ← hc2] at S
   rw [S.1] at h83
   obtain ⟨cy, hcy⟩ : ∃ z, z = (l0 + lo) / BB := ⟨_, rfl⟩
   rw [← hcy] at h83
   have h83' : ∀ w : World, (callFunc 286 #[.int .u64 l0, .int .u64 lo, .int .u64 0]).run Tryz.prog w = .ok (.value (.tuple #[.int .u64 (d : Int), .int .u64 (cy : Int)])) w := h83
   have hsum : IntKind.u64.wrap ((hi : Int) + (cy : Int)) = (c2 : Int) := by
    rw [show ((hi : Int) + (cy : Int)) = ((hi + cy : Nat) : Int) from by push_cast; rfl, u64_wrap, hcy, S.2]
   clear hx hgd hcl hlo hlt hd hc2 hA q1 q2 hxB hhi hl0 S hcy h83
   go_wp2_with (first
    | (go_at_call 260; refine (CM.out _).mono ?_; rintro e w' ⟨rfl, rfl⟩; clear CM)
    | (at_builtin; refine wpList_app rfl (.tmp 35) (.tmp 37) rfl w.heap.size _ _ _ rfl hO.out rfl L1.out hB.out.size ?_; intro v' w' own' bel' siz'; replace own' := Lib.hid own'; replace bel' := Lib.hid bel'; clear siz'))
   go_roundw
   case rel => exact ⟨k + 1, by have := HLT.out; omega, by go_num, by rw [E2.out], Lib.hid (by rw [E1.out]; exact own'.out), Lib.hid (bel'.out w (Nat.le_refl _) hB.out)⟩
   case measure => have := HLT.out; simp [intOf]; omega
  ·have hki : ¬ (k : Int) < (a.length : Int) := by omega
   have hkl : k = a.length := by omega
   subst hkl
   have L1 : Hid ((crw (tmF a m) c0 a.length).1.length ≤ 1000000) := Lib.hid (by rw [cr_len]; omega)
   have W1 : Hid (W64 ((crw (tmF a m) c0 a.length).1 ++ [(crw (tmF a m) c0 a.length).2])) := Lib.hid ((cr_w64 (fun k c => Nat.mod_lt _ BB_pos) _).append fun z hz => by
    rw [List.mem_singleton.1 hz]
    exact tm_carry HW.out HV.out.1 HV.out.2 a.length)
   clear hlt
   go_wp2_with (at_builtin; refine wpList_app rfl (.tmp 43) (.tmp 45) rfl w.heap.size _ _ _ rfl hO.out rfl L1.out hB.out.size ?_; intro v' w' own' bel' siz'; replace own' := Lib.hid own'; replace bel' := Lib.hid bel'; clear siz')
   refine (c82b (own'.out.nl W1.out)).mono ?_
   rintro e w2 ⟨rfl, v2, rfl, hv2, hg2⟩
   have HG2 := Lib.hid (fun g hg => own'.out.blk (hg2 g hg))
   have R2 : Hid (NV w' v2 (val a * m + c0)) := Lib.hid ⟨_, hv2, tn_can _ (Nat.le_refl _), by rw [tn_val _ (Nat.le_refl _), List.take_length, V1.out]⟩
   clear hv2 hg2
   go_wp2_with fail
   go_ret
   exact ⟨bel'.out w (Nat.le_refl _) hB.out, _, rfl, R2.out, HG2.out⟩
theorem lTimes {w : World} {v : Value} {x m c : Nat} (hv : NV w v x) (hx : blen x ≤ 64000) (hm : m < BB) (hc : c < BB) :
  Calls Tryz.prog 250 #[v, .int .u64 m, .int .u64 c] w fun e w' => Below w.heap.size w w' ∧ ∃ v', e = .returned v' ∧ NV w' v' (x * m + c) ∧ ∀ g, blk v' = some g → w.heap.size ≤ g := by
 obtain ⟨a, na, ca, rfl⟩ := hv
 exact lTimesL na hm hc (len_small na.1 ca (n := 1000) hx)
end Go.Proofs.YtlgencbldbpbdaaGreatDoor
