/- Right of whole numbers. -/
import Derived.Test.YtjkifbkehochoaaGreatDoorMgDhD
import Derived.Test.YtjkifbkehochoaaGreatDoorMgLgG0
import Derived.Test.YtjkifbkehochoaaGreatDoorMgLgE
import Derived.Deep.RegionLaw
namespace Go.Proofs.YtjkifbkehochoaaGreatDoor
open Go.RowKit Fl

/-- something was lost, as the loop has it behind k rounds -/
def lostAt (l : List Nat) (q s k : Nat) : Bool := decide (val (l.take q) ≠ 0) || (decide (0 < k) && decide ((l.drop q).getD 0 0 % 2 ^ s ≠ 0))
theorem lost_iff (l : List Nat) (q : Nat) : (0 : Int) < (((l.take q).take (tn (l.take q) (l.take q).length)).length : Int) ↔ val (l.take q) ≠ 0 := by
  have h1 := tn_val (l := l.take q) _ (Nat.le_refl _)
  have h2 := tn_can (l := l.take q) _ (Nat.le_refl _)
  rw [List.take_length] at h1
  constructor
  · intro h h0
    rw [h0] at h1
    have := val_zero h2 h1
    rw [this] at h
    simp at h
  · intro h
    refine Int.natCast_pos.2 (Nat.pos_of_ne_zero fun h0 => h ?_)
    rw [← h1, List.eq_nil_of_length_eq_zero h0]
    rfl
theorem rs_bits {x y s : Nat} (hs : s ≤ 63) (hx : x < BB) : bits .or .u64 ((x : Int) / 2 ^ s) (IntKind.u64.wrap (IntKind.u64.wrap ((y : Int) * 2) * 2 ^ (63 - s))) = (((x / 2 ^ s + y * 2 ^ (64 - s)) % BB : Nat) : Int) := by
  have e := BB_split s (by omega)
  have e1 : ((x : Int) / 2 ^ s) = ((x / 2 ^ s : Nat) : Int) := by push_cast; rfl
  have e2 : IntKind.u64.wrap (IntKind.u64.wrap ((y : Int) * 2) * 2 ^ (63 - s)) = ((y * 2 ^ (64 - s) % BB : Nat) : Int) := by
    rw [show ((y : Int) * 2) = ((y * 2 : Nat) : Int) from by push_cast; rfl, u64_wrap, show (((y * 2 % BB : Nat) : Int) * 2 ^ (63 - s)) = ((y * 2 % BB * 2 ^ (63 - s) : Nat) : Int) from by push_cast; rfl, u64_wrap, Nat.mod_mul_mod, Nat.mul_assoc, ← Nat.pow_succ', show (63 - s).succ = 64 - s by omega]
  have h1 : x / 2 ^ s < 2 ^ (64 - s) := by
    rw [Nat.div_lt_iff_lt_mul (Nat.two_pow_pos s), Nat.mul_comm, ← e]; exact hx
  have h2 : y * 2 ^ (64 - s) % BB = 2 ^ (64 - s) * (y % 2 ^ s) := by
    rw [e, Nat.mul_comm (2 ^ s), Nat.mul_comm y, Nat.mul_mod_mul_left]
  have h3 : y % 2 ^ s < 2 ^ s := Nat.mod_lt _ (Nat.two_pow_pos s)
  have h4 : x / 2 ^ s + 2 ^ (64 - s) * (y % 2 ^ s) < BB := by
    have : 2 ^ (64 - s) * (y % 2 ^ s + 1) ≤ 2 ^ (64 - s) * 2 ^ s := Nat.mul_le_mul_left _ h3
    rw [Nat.mul_add, Nat.mul_one, Nat.mul_comm (2 ^ (64 - s)) (2 ^ s), ← e] at this
    omega
  have h5 : x / 2 ^ s < BB := Nat.lt_of_le_of_lt (Nat.le_add_right _ _) h4
  rw [e1, e2, u64_or_nat _ _ (show x / 2 ^ s < 18446744073709551616 from h5) (show y * 2 ^ (64 - s) % BB < 18446744073709551616 from Nat.mod_lt _ BB_pos), h2, Nat.or_comm, ← Nat.two_pow_add_eq_or_of_lt h1, Nat.add_comm, Nat.add_mod, h2, Nat.mod_eq_of_lt h5, Nat.mod_eq_of_lt h4]
theorem low_bits {x s : Nat} (hs : s ≤ 63) (hx : x < BB) : bits .and .u64 (x : Int) (IntKind.u64.wrap (IntKind.u64.wrap (2 ^ s) - 1)) = ((x % 2 ^ s : Nat) : Int) := by
  have h1 : (2 : Nat) ^ s ≤ 2 ^ 63 := Nat.pow_le_pow_right (by decide) hs
  have h0 := Nat.two_pow_pos s
  have e1 : IntKind.u64.wrap (2 ^ s) = ((2 ^ s : Nat) : Int) := by
    rw [show ((2 : Int) ^ s) = ((2 ^ s : Nat) : Int) from by push_cast; rfl, u64_wrap, Nat.mod_eq_of_lt (show 2 ^ s < BB by unfold BB; omega)]
  have e2 : IntKind.u64.wrap (((2 ^ s : Nat) : Int) - 1) = ((2 ^ s - 1 : Nat) : Int) := by
    rw [show ((2 ^ s : Nat) : Int) - 1 = ((2 ^ s - 1 : Nat) : Int) by omega, u64_wrap, Nat.mod_eq_of_lt (show 2 ^ s - 1 < BB by unfold BB; omega)]
  rw [e1, e2, u64_and_nat _ _ hx (by omega), Nat.and_two_pow_sub_one_eq_mod]
theorem OU.drew {w : World} {B : Nat} {v : Value} {l : List Nat} (h : OU w B v l) : OU w.drew B v l := h
theorem step_app {w0 : World} {ops : Array Oper} {o : Oper} {a : Act} {K : Act → World → Prop} {Q : Exit → Act → World → Prop} {E : Prop} (hgd : o.guard = none) (s x : Operand)
    (ho : o.op = .call { callee := .builtin .append, args := #[s, x], argTypes := #[63, 63] }) (B : Nat) (v : Value) (l : List Nat) (d : Nat) (hs : a.eval s = v) (hown : OU w0 B v l) (hx : a.eval x = .slice (some ⟨w0.heap.size, 0, none⟩) 1 1) (hl : l.length ≤ 1000000) (hB : B ≤ w0.heap.size)
    (h : ∀ v' w', OU w' B v' (l ++ [d]) → (∀ wB, B ≤ wB.heap.size → Below B wB w0 → Below B wB w') → K (a.put o.dst v') w') :
    if Region.wanted o (yielded ops a.tmps) = true then Oper.wp Tryz.prog o a (w0.alloc (.cells #[.int .u64 (d : Int)] 27)) K Q else E := by
  obtain ⟨i0, hi, hz0, hz1, hz2⟩ := info_parts info77
  refine step_append_lies _ hgd s x 63 ho B 27 i0 (.int .u64 0) 1 8 Tryz.underlying63 hi hz0 hz1 hz2 rfl (by decide) v l.length (l.map uv) hs (hown.alloc _) ⟨w0.heap.size, 0, none⟩ 1 1 [uv d] hx rfl ?_ ?_ (by decide) (by unfold maxLen; omega) (by omega) (by simp; omega) _ rfl ?_
  · intro j u hj
    match j, hj with
    | 0, hj => simp at hj; subst hj; simp [Addr.add, uv]
  · intro u hu; simp at hu; subst hu; rfl
  · intro g cap w' own grow _ _
    refine h _ w' ?_ ?_
    · unfold OU
      rw [List.length_append, List.map_append]
      exact own
    · intro wB hb1 hb2
      refine (hb2.alloc hB _).grown grow (by simp; omega) fun k hk => ?_
      rcases hown.2 with ⟨e, _⟩ | ⟨g, _, _, e, hg, _⟩
      · rw [e] at hk; cases hk
      · rw [e] at hk; cases hk; exact hg
theorem lost_end {l : List Nat} (hW : W64 l) (q s k n : Nat) (hs : s ≤ 63) (hk : 0 < k) (hn : 64 * q + s = n) : lostAt l q s k = decide (val l % 2 ^ n ≠ 0) := by
  have h := val_lost hW q s hs
  rw [hn] at h
  unfold lostAt
  rw [decide_eq_true hk, Bool.true_and]
  by_cases h1 : val (l.take q) = 0
  · rw [decide_eq_false (fun h3 => h3 h1), Bool.false_or]
    by_cases h2 : (l.drop q).getD 0 0 % 2 ^ s = 0
    · rw [decide_eq_false (fun h3 => h3 h2), decide_eq_false (fun h3 => h3 (h.2 ⟨h1, h2⟩))]
    · rw [decide_eq_true h2, decide_eq_true (show val l % 2 ^ n ≠ 0 from fun h3 => h2 (h.1 h3).2)]
  · rw [decide_eq_true h1, Bool.true_or, decide_eq_true (show val l % 2 ^ n ≠ 0 from fun h3 => h1 (h.1 h3).1)]
theorem bne_nat (a : Nat) : ((a : Int) != 0) = decide (a ≠ 0) := by
  by_cases h : a = 0
  · subst h; rfl
  · rw [decide_eq_true h, bne_iff_ne]; omega
set_option maxRecDepth 100000 in
set_option maxHeartbeats 2000000 in
theorem c81s {w : World} {b o c : Nat} {l : List Nat} {n : Nat} (hW : W64 l) (hC : Can l) (hA : NA w b o l) (hcl : l.length ≤ c) (hcm : c ≤ maxLen) (hlen : l.length ≤ 1000) (hn : n ≤ 64000) (h0 : 0 < l.length) (hq : n / 64 < l.length) :
    Calls Tryz.prog 79 #[.slice (some ⟨b, o, none⟩) l.length c, .int .i64 n] w fun e w' => Below w.heap.size w w' ∧ ∃ v', e = .returned (.tuple #[v', .bool (decide (val l % 2 ^ n ≠ 0))]) ∧ NV w' v' (val l / 2 ^ n) ∧ ∀ g, blk v' = some g → w.heap.size ≤ g := by
  obtain ⟨q, hq'⟩ : ∃ q, q = n / 64 := ⟨_, rfl⟩
  obtain ⟨s, hs'⟩ : ∃ s, s = n % 64 := ⟨_, rfl⟩
  have hqn : (n : Int) / 64 = (q : Int) := by omega
  have hsn : (n : Int) % 64 = (s : Int) := by omega
  have hql : (q : Int) < (l.length : Int) := by omega
  have hl2 : (l.length : Int) ≤ 1000 := by omega
  have hlc : (l.length : Int) ≤ (c : Int) := by omega
  have hs2 : (s : Int) ≤ 63 := by omega
  have hn2 : (n : Int) ≤ 64000 := by omega
  have hn0 : (0 : Int) ≤ (n : Int) := by omega
  have hq3 : (n : Int) / 64 ≤ 1000 := by omega
  have hq4 : (0 : Int) ≤ (n : Int) / 64 := by omega
  have hcm2 : (c : Int) ≤ 9223372036854775807 := by unfold maxLen at hcm; omega
  have HT : Hid (NL w (.slice (some ⟨b, o, none⟩) q q) (l.take q)) := Lib.hid ⟨hW.take q, .inr ⟨b, o, q, by rw [List.length_take, Nat.min_eq_left (by omega)], by rw [List.length_take]; omega, by omega, hA.take q⟩⟩
  have HA := Lib.hid hA
  have HW := Lib.hid hW
  have HQ := Lib.hid (And.intro hqn hsn)
  have HQ' := Lib.hid (And.intro hq' hs')
  replace hql := Lib.hid hql
  clear hA hW hC hcm hqn hsn hq' hs' hq
  go_enter Tryz.func79, Tryz.ntmps79
  go_upto_region 2 with fail
  have hmin : min ((n : Int) / 64) (l.length : Int) = (q : Int) := by have := HQ.out.1; have := hql.out; omega
  rw [hmin]
  clear hmin
  have hq0 : (q : Int) ≤ (l.length : Int) := by have := hql.out; omega
  go_upto_region 3 with (go_at_call 80; refine (c82 HT.out).mono ?_; rintro e w' ⟨rfl, v', rfl, hv'⟩; obtain ⟨A', c', rfl⟩ := hv'.form; have HM := Lib.hid (show (0 : Int) < ((l.take q).take (tn (l.take q) (l.take q).length)).length ↔ val (l.take q) ≠ 0 from (lost_iff l q)); clear hv'; generalize ((l.take q).take (tn (l.take q) (l.take q).length)).length = m at *)
  obtain ⟨b0, hb0⟩ : ∃ b0, b0 = decide (val (l.take q) ≠ 0) := ⟨_, rfl⟩
  have hdm : decide (0 < m) = b0 := by
    rw [hb0]
    have := HM.out
    by_cases h : val (l.take q) = 0
    · have h1 : ¬ (0 : Int) < (m : Int) := fun h2 => this.1 h2 h
      simp [h]; omega
    · have h1 := this.2 h
      simp [h]; omega
  rw [hdm]
  replace hb0 := Lib.hid hb0
  clear hdm HM HT
  have hqe : ¬ ((q : Int) < (n : Int) / 64) := by have := HQ.out.1; omega
  have hqc : (q : Int) ≤ (c : Int) := by omega
  have hcq : ¬ (c = q) := by have := hql.out; omega
  obtain ⟨r, hr⟩ : ∃ r, l.length = q + r := ⟨l.length - q, by omega⟩
  have hmk : ∀ wx : World, (Instr.makeSlice 63 (.int .i64 0) (.int .i64 (r : Int))).run Tryz.prog wx = .ok (.slice (some ⟨wx.heap.size, 0, none⟩) 0 r) (wx.alloc (.cells (madeCells #[.int .u64 0] r) 27)) := fun wx => run_mk 0 r (by omega) (by omega) wx
  have O0 := Lib.hid (OU.made w (p := 0) (q := r) (by omega) (by unfold maxLen; omega) (B := w.heap.size) (Nat.le_refl _))
  have B0 : Hid (Below w.heap.size w (w.alloc (.cells (madeCells #[.int .u64 0] r) 27))) := Lib.hid ((Below.refl _ _).alloc (Nat.le_refl _) _)
  have HD := Lib.hid (HA.out.drop q)
  have HR := Lib.hid hr
  have hr2 : (r : Int) ≤ 1000 := by omega
  have hrc : (r : Int) ≤ ((c - q : Nat) : Int) := by omega
  go_upto_region 7 with fail
  generalize w.alloc (.cells (madeCells #[.int .u64 0] r) 27) = w1 at *
  generalize (Value.slice (some ⟨w.heap.size, 0, none⟩) 0 r) = v1 at *
  go_wp2_with fail
  go_loopw [7, 9, 38] (fun bl v i wx => ∃ (k : Nat) (b1 : Bool), k ≤ r ∧ i = .int .i64 k ∧ bl = .bool b1 ∧ Hid (b1 = lostAt l q s k) ∧ Hid (OU wx w.heap.size v ((rsV s (l.drop q)).take k)) ∧ Hid (Below w.heap.size w wx)) (fun _ _ i _ => r - (intOf i).toNat)
  case atStart => exact ⟨0, b0, Nat.zero_le _, rfl, rfl, Lib.hid (by rw [hb0.out]; simp [lostAt]), Lib.hid (by rw [List.take_zero]; exact O0.out), B0⟩
  case round =>
    obtain ⟨k, b1, hk, rfl, rfl, hL, hO, hB⟩ := hrel
    by_cases hlt : k < r
    · have hki : (k : Int) < (r : Int) := by omega
      have hdl : (l.drop q).length = r := by rw [List.length_drop]; have := HR.out; omega
      obtain ⟨x, hx⟩ : ∃ x, (l.drop q)[k]? = some x := ⟨(l.drop q)[k], List.getElem?_eq_getElem (by omega)⟩
      have kc := (HD.out.below hB.out).2 k x hx
      obtain ⟨y, hy⟩ : ∃ y, y = (l.drop q).getD (k + 1) 0 := ⟨_, rfl⟩
      have HX := Lib.hid hx
      have HY := Lib.hid hy
      have HLT := Lib.hid hlt
      clear hx hy hlt
      have HD2 := Lib.hid (fun (z : Nat) (hz : (l.drop q)[k + 1]? = some z) => (HD.out.below hB.out).2 (k + 1) z hz)
      have HDL := Lib.hid hdl
      clear hdl
      go_upto_if 47 with fail
      go_cut [12, 38] from 38 to 79 (fun u i wx => u = .int .u64 (y : Int) ∧ i = .int .i64 (k : Int) ∧ wx = wr)
      case first =>
        by_cases hk1 : k + 1 < r
        · have hki2 : (k : Int) + 1 < (r : Int) := by omega
          have hy2 : (l.drop q)[k + 1]? = some y := by
            have hlt2 : k + 1 < (l.drop q).length := by have := HDL.out; omega
            rw [HY.out, List.getD, List.getElem?_eq_getElem hlt2]; rfl
          have kc2 := HD2.out y hy2
          clear hy2 hk1
          go_wp2_with fail
          go_meet
          exact ⟨rfl, rfl, rfl⟩
        · have hki2 : ¬ (k : Int) + 1 < (r : Int) := by omega
          have hy2 : y = 0 := by rw [HY.out, List.getD, List.getElem?_eq_none (by have := HDL.out; omega)]; rfl
          subst hy2
          clear hk1
          go_wp2_with fail
          go_meet
          exact ⟨rfl, rfl, rfl⟩
      case rest =>
        obtain ⟨rfl, rfl, rfl⟩ := hcut
        obtain ⟨b2, hb2⟩ : ∃ b2, b2 = lostAt l q s (k + 1) := ⟨_, rfl⟩
        have HB2 := Lib.hid hb2
        clear hb2
        go_upto_if 54 with fail
        go_cut [7, 38] from 38 to 79 (fun u i wx => u = .bool b2 ∧ i = .int .i64 (k : Int) ∧ wx = wc)
        case first =>
          by_cases hk0 : k = 0
          · subst hk0
            have hki3 : (0 : Int) = 0 := rfl
            cases b1
            · go_wp2_with fail
              go_meet
              refine ⟨?_, rfl, rfl⟩
              rw [HQ'.out.2.symm, low_bits (by omega) ((HW.out.drop q) x (List.mem_of_getElem? HX.out)), HB2.out]
              have e0 : decide (val (l.take q) ≠ 0) = false := by have := hL.out; unfold lostAt at this; simp at this; simpa using this
              have e1 : (l.drop q).getD 0 0 = x := by rw [List.getD, HX.out]; rfl
              unfold lostAt
              rw [e0, e1]
              rw [bne_nat]
              rfl
            · go_wp2_with fail
              go_meet
              exact ⟨by rw [HB2.out]; have := hL.out; unfold lostAt at this ⊢; simp at this; simp [this], rfl, rfl⟩
          · have hki3 : ¬ ((k : Int) = 0) := by omega
            have hb12 : b1 = b2 := by
              rw [HB2.out, hL.out]; unfold lostAt
              congr 2
              have : 0 < k := by omega
              simp [this]
            subst hb12
            clear hk0
            go_wp2_with fail
            go_meet
            exact ⟨rfl, rfl, rfl⟩
        case rest =>
          obtain ⟨rfl, rfl, rfl⟩ := hcut
          obtain ⟨d, hd⟩ : ∃ d, d = (x / 2 ^ s + y * 2 ^ (64 - s)) % BB := ⟨_, rfl⟩
          have es : n % 64 = s := HQ'.out.2.symm
          have hor : bits .or .u64 ((x : Int) / 2 ^ s) (IntKind.u64.wrap (IntKind.u64.wrap ((y : Int) * 2) * 2 ^ (63 - s))) = (d : Int) := by rw [hd]; exact rs_bits (by omega) (by have := (HW.out.drop q); exact this x (List.mem_of_getElem? HX.out))
          have E1 : Hid ((rsV s (l.drop q)).take (k + 1) = (rsV s (l.drop q)).take k ++ [d]) := Lib.hid (by
            rw [List.take_add_one, rsV_get s _ k x HX.out, hd, HY.out]; rfl)
          have L1 : Hid (((rsV s (l.drop q)).take k).length ≤ 1000000) := Lib.hid (by rw [List.length_take]; omega)
          clear hd es
          go_wp2_with fail
          have ht : (n : Int).tmod 64 = (s : Int) := by rw [Int.tmod_eq_emod_of_nonneg hn0]; exact HQ.out.2
          have ht0 : ¬ ((s : Int) < 0) := by omega
          have ht1 : IntKind.i64.wrap (63 - (s : Int)) = ((63 - s : Nat) : Int) := by rw [IntWalk.i64_in _ (by omega)]; omega
          have ht2 : ¬ (((63 - s : Nat) : Int) < 0) := by omega
          have O2 := Lib.hid hO.out.drew
          have B2 := Lib.hid hB.out.drew
          go_region_law (refine step_app rfl (.tmp 65) (.tmp 77) rfl w.heap.size _ _ _ (by simp [Act.eval, Act.put]) O2.out (by simp [Act.eval, Act.put]) L1.out B2.out.size ?_; intro v' w' own' bel'; replace own' := Lib.hid own'; replace bel' := Lib.hid bel')
          go_wp2_with fail
          go_roundw
          case rel => exact ⟨k + 1, b2, by have := HLT.out; omega, by go_num, rfl, HB2, Lib.hid (by rw [E1.out]; exact own'.out), Lib.hid (bel'.out w (Nat.le_refl _) B2.out)⟩
          case measure => have := HLT.out; simp [intOf]; omega
    · have hki : ¬ (k : Int) < (r : Int) := by omega
      have hkr : k = r := by omega
      subst hkr
      have hdl : (l.drop q).length = k := by rw [List.length_drop]; have := HR.out; omega
      have EN : 64 * q + s = n := by have := HQ'.out; omega
      have W1 : W64 ((rsV s (l.drop q)).take k) := (rsV_w64 s _).take k
      have hb : b1 = decide (val l % 2 ^ n ≠ 0) := by rw [hL.out]; exact lost_end HW.out q s k n (by omega) (by have := hql.out; omega) EN
      have HBL := Lib.hid hb
      clear hb
      have V1 : Hid (val ((rsV s (l.drop q)).take k) = val l / 2 ^ n) := Lib.hid (by
        rw [List.take_of_length_le (by rw [rsV_len]; omega), rsV_val (HW.out.drop q) s (by omega), ← EN, val_drop HW.out])
      replace W1 := Lib.hid W1
      clear hlt hdl EN
      go_wp2_with fail
      refine (c82b (hO.out.nl W1.out)).mono ?_
      rintro e w2 ⟨rfl, v2, rfl, hv2, hg2⟩
      have HG2 := Lib.hid (fun g hg => hO.out.blk (hg2 g hg))
      clear hg2
      have R2 : Hid (NV wr v2 (val l / 2 ^ n)) := Lib.hid ⟨_, hv2, tn_can _ (Nat.le_refl _), by rw [tn_val _ (Nat.le_refl _), List.take_length, V1.out]⟩
      clear hv2
      go_wp2_with fail
      go_ret2
      exact ⟨hB.out, v2, by rw [← HBL.out]; rfl, R2.out, HG2.out⟩
end Go.Proofs.YtjkifbkehochoaaGreatDoor
