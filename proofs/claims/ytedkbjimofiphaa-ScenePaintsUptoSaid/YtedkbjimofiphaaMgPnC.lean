/- The law ScenePaints: the walk over at least one shape. The law ScenePaints: the walk over no shapes; both. The walk of GeomRects and what opens its arguments. -/
import Derived.Test.YtedkbjimofiphaaMgItB
import Derived.Test.YtedkbjimofiphaaMgRdD
import Derived.Test.YtedkbjimofiphaaMgInvD
import Derived.ChangeArms
import Derived.ProofKit
namespace Go.Proofs.Ytedkbjimofiphaa
open Go.RowKit Fl

set_option maxRecDepth 100000 in
set_option maxHeartbeats 8000000 in
theorem paints3 (w : World) (gs os n cs : Nat) (S : Nat → SH) (hS : ∀ i, i < n → (S i).OK) (hr : ∀ i, i < n → w.rangeAt gs (os + i * 24) (S i).cells) (lg : gs < w.heap.size) (hn : n ≤ 1048576) (h0 : 0 < n) :
    Calls Try.prog 3 #[.slice (some ⟨gs, os, none⟩) n cs] w fun e w' => e = .returned (.bool true) ∧ Below w.heap.size w w' := by
  have H := Lib.hid (And.intro hS (And.intro hr lg))
  obtain ⟨iL, l1, l2, l3, l4⟩ := info_parts infoL
  have IL' := Lib.hid (And.intro l1 (And.intro l2 (And.intro l3 l4)))
  obtain ⟨iB, b1, b2, b3, b4⟩ := info_parts infoB
  have IB := Lib.hid (And.intro b1 (And.intro b2 (And.intro b3 b4)))
  clear hS hr lg b1 b2 b3 b4 l1 l2 l3 l4
  go_enter Try.func3, Try.ntmps3
  go_wp2_with fail
  go_at_call 6
  refine (awake6 w).mono ?_
  rintro e w1 ⟨rfl, hb1⟩
  have B1 := Lib.hid hb1
  clear hb1
  have C7 := Lib.hid (c7 w1 gs os n cs S H.out.1 (fun i hi => range_below (H.out.2.1 i hi) B1.out H.out.2.2) (Nat.lt_of_lt_of_le H.out.2.2 B1.out.size) hn)
  go_wp2_with fail
  go_at_call 7
  refine C7.out.mono fun e w2 ⟨bv, lv, he, hR⟩ => ?_
  subst he
  obtain ⟨pb, cb, rfl, -⟩ := owned_slice hR.ob
  obtain ⟨pl', cl, rfl, -⟩ := owned_slice hR.ol
  obtain ⟨gb, rfl, -, gb2⟩ := owned_some hR.ob h0
  obtain ⟨gl, rfl, -, gl2⟩ := owned_some hR.ol h0
  have HR := Lib.hid (And.intro hR (And.intro gb2 gl2))
  obtain ⟨NEWS, hNEWS⟩ : ∃ l, l = (List.range n).flatMap fun k => (S k).bx.cells := ⟨_, rfl⟩
  have hlen : NEWS.length = n * 7 := by rw [hNEWS]; exact flatR_len (f := fun k => (S k).bx.cells) (s := 7) n (fun k hk => rfl)
  have NL := Lib.hid hlen
  have NC1 := Lib.hid (show ∀ j u, NEWS[j]? = some u → (w2.alloc (.cells #[] 35)).cell? ((⟨gb, 0, none⟩ : Addr).add j) = some u from fun j u hj => by
    have hl := (List.getElem?_eq_some_iff.1 hj).1
    rw [Addr.add_lit, Nat.zero_add, ((Below.refl w2.heap.size w2).alloc (Nat.le_refl _) (.cells #[] 35)).cell (p := ⟨gb, j, none⟩) gb2, hR.ob.cellAt j (by omega), ← hNEWS]; exact hj)
  have N1 := Lib.hid (show ∀ u ∈ NEWS, u.oneCell' = true from fun u hu => by
    rw [hNEWS] at hu
    obtain ⟨k, hk, hu⟩ := List.mem_flatMap.1 hu
    have := box_one (S k).bx
    rw [Array.all_eq_true_iff_forall_mem] at this
    exact this u (by simpa using hu))
  have OM := Lib.hid (World.ownsRow_made (base := w2.heap.size) (e := 35) (size := 7) w2 #[] 0 (Nat.le_refl _) (by unfold maxLen; omega) rfl)
  have HN := Lib.hid hNEWS
  clear C7 hR gb2 gl2 hNEWS hlen
  go_upto_region 3 with fail
  go_wp2_with (at_builtin; refine wpList_append_strong rfl _ _ 24 rfl w2.heap.size 35 iB (.agg #[.int .u32 0, .int .u32 0, .int .i64 0, .float .f64 0, .float .f64 0, .float .f64 0, .float .f64 0]) 7 48 Try.underlying24 IB.out.1 IB.out.2.1 IB.out.2.2.1 IB.out.2.2.2 rfl (by decide) _ _ _ rfl OM.out ⟨gb, 0, none⟩ n cb NEWS rfl ?c0 NC1.out ?c2 ?c3 ?c4 ?c5 ?c6 ?_)
  case c0 => exact NL.out
  case c2 => exact N1.out
  case c3 => unfold maxLen; omega
  case c4 => omega
  case c5 => simp
  case c6 => exact h0
  intro v3 w3 hown hgrow hblk
  have B3 := Lib.hid (show Below w2.heap.size w2 w3 from ((Below.refl _ _).alloc (Nat.le_refl _) (.cells #[] 35)).trans ((grown_keep OM.out hgrow (by simp) (fun _ => False)).below _ (Nat.le_refl _) (fun _ _ h => h)))
  obtain ⟨p3, c3, rfl, -⟩ := owned_slice hown
  have O3 := Lib.hid (hown.alloc (.cells ([Value.agg bx77.toArray].flatMap fun v => v.cells.toList).toArray 35))
  have NC3 := Lib.hid (new_row2 w3 bx77 35)
  clear hown hgrow hblk NC1 OM
  go_wp2_with (first
    | (refine wpList_builtC rfl 35 [(1, .const (.int .i64 77))] rfl _ bx77.toArray rfl built77 ?_)
    | (refine Go.Great.wpList_buildRows rfl 24 35 #[(0, .tmp 24)] 7 [.agg bx77.toArray] rfl (fun _ => 24) w3.heap.size rfl (some 25) rfl Try.underlying24 (by rw [IB.out.1]; exact congrArg some IB.out.2.2.1) (by rw [IB.out.1, Option.bind_some, IB.out.2.1]; rfl) (by decide) (Nat.succ_pos 0) (show 1 * 7 ≤ 2 ^ 24 by decide) rfl (fun v hv => by rw [List.mem_singleton.1 hv]; rfl) (fun k hk => by match k, hk with | 0, _ => rfl) ?_)
    | (at_builtin; refine wpList_append_strong rfl _ _ 24 rfl w2.heap.size 35 iB (.agg #[.int .u32 0, .int .u32 0, .int .i64 0, .float .f64 0, .float .f64 0, .float .f64 0, .float .f64 0]) 7 48 Try.underlying24 IB.out.1 IB.out.2.1 IB.out.2.2.1 IB.out.2.2.2 rfl (by decide) _ _ _ rfl O3.out ⟨w3.heap.size, 0, none⟩ 1 1 bx77 rfl ?d0 NC3.out ?d2 ?d3 ?d4 ?d5 (by decide) ?_))
  case d0 => rfl
  case d2 =>
    intro u hu
    have h : u = .int .u32 0 ∨ u = .int .i64 77 ∨ u = .float .f64 0 := by simpa [bx77] using hu
    rcases h with rfl | rfl | rfl <;> rfl
  case d3 => unfold maxLen; omega
  case d4 => omega
  case d5 => have := B3.out.size; simp; omega
  intro v4 w4 hown hgrow hblk
  obtain ⟨p4, cm, rfl, -⟩ := owned_slice hown
  obtain ⟨gm, rfl, -, gm2⟩ := owned_some hown (by omega)
  have B4 : Below w2.heap.size w2 w4 := (B3.out.alloc B3.out.size _).trans ((grown_keep O3.out hgrow (by have := B3.out.size; simp; omega) (fun _ => False)).below _ (Nat.le_refl _) (fun _ _ h => h))
  have M4 := Lib.hid (MK.of H.out.1 HR.out.1 HR.out.2.1 HR.out.2.2 B4 (by rw [← HN.out]; exact hown))
  have B5 := Lib.hid (B1.out.trans (M4.out.b.mono B1.out.size))
  have hcap : (n : Int) ≤ (cm : Int) := by have := M4.out.cap; omega
  have C8 := Lib.hid (c8 w4 gm gl n cm cl (fun k => (S k).bx) (lkR S) M4.out.rm M4.out.rl M4.out.lm M4.out.ll (fun i hi => bxOK (H.out.1 i hi)) (fun i hi => lkR_OK H.out.1 hi) hn (same_lkR S n))
  clear hown hgrow hblk O3 NC3 B4 gm2 B3 HR HN NL N1 IB B1
  go_wp2_with fail
  go_at_call 8
  refine C8.out.mono fun e w5 ⟨ov, av, MS, OS, he, pr, ho, ha, hb⟩ => ?_
  subst he
  obtain ⟨po, co, rfl, -⟩ := owned_slice ho
  obtain ⟨pa, ca, rfl, -⟩ := owned_slice ha
  obtain ⟨go1, rfl, -, go2⟩ := owned_some ho h0
  obtain ⟨ga, rfl, -, ga2⟩ := owned_some ha h0
  have P5 := Lib.hid (And.intro pr (And.intro (PA_at (fun i hi => bxOK (H.out.1 i hi)) pr ho) (And.intro go2 (And.intro (show ∀ k, k < n → w5.rangeAt ga (k * 2) ((S k).bx).nd from fun k hk => owned_rec (f := fun k => ((S k).bx).nd) (fun k hk => rfl) ha hk) ga2))))
  have M5 := Lib.hid (M4.out.below hb)
  have B6 := Lib.hid (B5.out.trans (hb.mono (by have := B5.out.size; have := M4.out.b.size; omega)))
  clear pr ho ha hb go2 ga2 M4 C8 B5 hcap
  have C9 := Lib.hid (c9 w5 gb gl n cb cl (fun k => (S k).bx) (lkR S) (fun k hk => bxOK (H.out.1 k hk)) (fun k hk => lkR_OK H.out.1 hk) hn h0 M5.out.rb M5.out.rl M5.out.lb M5.out.ll)
  go_upto_region 5 with fail
  go_wp2_with fail
  go_at_call 9
  refine C9.out.mono fun e w6 ⟨ov2, MS2, OS2, he, pr, ho, hb⟩ => ?_
  subst he
  obtain ⟨po2, co2, rfl, -⟩ := owned_slice ho
  obtain ⟨gp, rfl, -, gp2⟩ := owned_some ho h0
  have C10 := Lib.hid (c10 w6 go1 gp n co co2 (PA (fun k => (S k).bx) (lkR S) n MS OS) (PA (fun k => (S k).bx) (lkR S) n MS2 OS2) (PA_OK (fun i hi => bxOK (H.out.1 i hi)) P5.out.1) (PA_OK (fun i hi => bxOK (H.out.1 i hi)) pr) (PA_Sim P5.out.1 pr)
    (fun k hk => range_below (P5.out.2.1 k hk) hb P5.out.2.2.1) (PA_at (fun i hi => bxOK (H.out.1 i hi)) pr ho) (Nat.lt_of_lt_of_le P5.out.2.2.1 hb.size) gp2 hn)
  have A6 := Lib.hid (show (∀ k, k < n → w6.rangeAt ga (k * 2) ((S k).bx).nd) ∧ ga < w6.heap.size from ⟨fun k hk => range_below (P5.out.2.2.2.1 k hk) hb P5.out.2.2.2.2, Nat.lt_of_lt_of_le P5.out.2.2.2.2 hb.size⟩)
  have M6 := Lib.hid (M5.out.below hb)
  have B7 := Lib.hid (B6.out.trans (hb.mono (by have := B6.out.size; omega)))
  clear pr ho hb gp2 P5 C9 M5 B6
  go_upto_region 6 with fail
  go_wp2_with fail
  go_at_call 10
  refine C10.out.mono fun e w7 ⟨he, hb⟩ => ?_
  subst he
  have A7 := Lib.hid (show (∀ k, k < n → w7.rangeAt ga (k * 2) ((S k).bx).nd) ∧ ga < w7.heap.size from ⟨fun k hk => range_below (A6.out.1 k hk) hb A6.out.2, Nat.lt_of_lt_of_le A6.out.2 hb.size⟩)
  have M7 := Lib.hid (M6.out.below hb)
  have B8 := Lib.hid (B7.out.trans (hb.mono (by have := B7.out.size; omega)))
  clear hb A6 M6 B7 C10
  have c77 := M7.out.c77
  have hmn : (n : Int) < ((n + 1 : Nat) : Int) := by omega
  have hmn2 : (n : Int) < (n : Int) + 1 := by omega
  have nn : ((n : Int) != (n : Int)) = false := by simp
  go_upto_region 9 with fail
  have K0 := Lib.hid (Below.refl w7.heap.size w7)
  clear c77 hmn hmn2
  go_wp2_with fail
  go_loopw [11, 12] (fun ii _ wx => ∃ i : Nat, ii = .int .i64 (i : Int) ∧ i ≤ n ∧ Hid (Below w7.heap.size w7 wx)) (fun ii _ _ => n - (intOf ii).toNat)
  case atStart => exact ⟨0, by go_num, Nat.zero_le _, K0⟩
  case round =>
    obtain ⟨i, rfl, hin, hK⟩ := hrel
    clear K0
    by_cases hlt : i < n
    · have hii : (i : Int) < (n : Int) := by omega
      have di : decide ((i : Int) < (n : Int)) = true := decide_eq_true hii
      have M8 := Lib.hid (M7.out.below hK.out)
      go_upto_region 12 with fail
      refine preg12 wr gb gm n cb cm i (S i).bx _ _ _ _ _ _ _ _ _ _ _ _ _ _ _ _ _ _ _ _ _ _ _ _ _ _ _ _ _ _ _ _ _ _ _ _ _ _ _ _ _ _ _ _ _ _ _ _ _ _ _ _ _ _ _ _ _ _ _ _ _ _ _ _ _ _ _ _ _ _ _ _ _ _ _ _ _ _ _ _ _ _ _ _ _ _ _ _ _ _ _ _ _ _ _ _ _ _ _ _ _ _ _ _ _ _ _ _ _ _ _ _ _ _ _ _ _ _ _ _ _ _ _ _ _ _ _ _ _ _ _ _ _ _ _ (bxOK (H.out.1 i hlt)) (M8.out.rb i hlt) (M8.out.rm i hlt) M8.out.lb M8.out.lm hlt (fun v70 v71 v72 v73 v74 v75 v76 v77 v78 v79 v80 w8 hb => ?_)
      have K8 := Lib.hid (hK.out.trans (hb.mono hK.out.size))
      clear M8 hb hK
      have M8 := M7.out.below K8.out
      have a0 := range_below (A7.out.1 i hlt) K8.out A7.out.2 0 _ rfl
      have a1 := range_below (A7.out.1 i hlt) K8.out A7.out.2 1 _ rfl
      have d0 := M8.rb i hlt 0 _ rfl
      have d1 := M8.rb i hlt 1 _ rfl
      have d2 := M8.rb i hlt 2 _ rfl
      have e0 := M8.rm i hlt 0 _ rfl
      have e1 := M8.rm i hlt 1 _ rfl
      have e2 := M8.rm i hlt 2 _ rfl
      simp only [Nat.add_zero] at a0 d0 e0
      have ne := ne30
      have hi1 : (i : Int) < (n : Int) + 1 := by omega
      have hi2 : (i : Int) < ((n + 1 : Nat) : Int) := by omega
      clear M8
      go_upto_region 13 with fail
      go_quiet (fail)
      have K9 := Lib.hid (below_drewN (q := nq) K8.out)
      clear a0 a1 d0 d1 d2 e0 e1 e2 ne K8
      generalize w8.drewN nq = w9 at *
      go_wp2_with fail
      go_roundw
      case rel => exact ⟨i + 1, by go_num, by omega, K9⟩
      case measure => simp [intOf]; omega
    · have e : i = n := by omega
      subst e
      have di : decide ((i : Int) < (i : Int)) = false := decide_eq_false (by omega)
      have M8 := Lib.hid (M7.out.below hK.out)
      have B9 := Lib.hid (B8.out.trans (hK.out.mono (by have := B8.out.size; omega)))
      have L0 := Lib.hid (show PL wr wr (.slice none 0 0) 0 from ⟨World.ownsRow_nil .., Below.refl _ _⟩)
      clear hK M7 B8 A7
      generalize wr = w8 at *
      have BT := Lib.hid (built52p idL (by decide))
      have LO := Lib.hid (lk_one LKp)
      have LN := Lib.hid (lk_len LKp_OK)
      go_wp2_with fail
      go_loopw [13, 14] (fun vv kk wx => ∃ k : Nat, kk = .int .i64 (k : Int) ∧ k ≤ i ∧ Hid (PL w8 wx vv k)) (fun _ kk _ => i - (intOf kk).toNat)
      case atStart => exact ⟨0, by go_num, Nat.zero_le _, L0⟩
      case round =>
        obtain ⟨k, rfl, hki, hL⟩ := hrel
        obtain ⟨pv, cv, rfl, -⟩ := owned_slice hL.out.o
        clear L0
        by_cases hlk : k < i
        · have hkk : (k : Int) < (i : Int) := by omega
          have dk : decide ((k : Int) < (i : Int)) = true := decide_eq_true hkk
          go_upto_region 19 with fail
          go_wp2_with fail
          go_at_call 12
          refine (k88 wr).mono ?_
          rintro e w9 ⟨rfl, hb⟩
          have L9 := Lib.hid (hL.out.below hb)
          have OA := Lib.hid (L9.out.o.alloc (.cells ([Value.agg LKp.cells.toArray].flatMap fun v => v.cells.toList).toArray 52))
          have NC := Lib.hid (new_row2 w9 LKp.cells 52)
          clear hb hL
          go_wp2_with (first
            | (refine wpList_builtC rfl 52 [(2, .const (.float .f64 4607182418800017408)), (15, .tmp 128)] rfl _ LKp.cells.toArray rfl BT.out ?_)
            | (refine Go.Great.wpList_buildRows rfl 25 52 #[(0, .tmp 129)] 54 [.agg LKp.cells.toArray] rfl (fun _ => 129) w9.heap.size rfl (some 130) rfl Try.underlying25 (by rw [IL'.out.1]; exact congrArg some IL'.out.2.2.1) (by rw [IL'.out.1, Option.bind_some, IL'.out.2.1]; rfl) (by decide) (Nat.succ_pos 0) (show 1 * 54 ≤ 2 ^ 24 by decide) rfl (fun v hv => by rw [List.mem_singleton.1 hv]; rfl) (fun k hk => by match k, hk with | 0, _ => rfl) ?_)
            | (at_builtin; refine wpList_append_strong rfl _ _ 25 rfl w8.heap.size 52 iL (.agg Z54) 54 432 Try.underlying25 IL'.out.1 IL'.out.2.1 IL'.out.2.2.1 IL'.out.2.2.2 rfl (by decide) _ _ _ rfl OA.out ⟨w9.heap.size, 0, none⟩ 1 1 LKp.cells rfl ?f0 NC.out ?f2 ?f3 ?f4 ?f5 (by decide) ?_))
          case f0 => exact LN.out
          case f2 => exact LO.out
          case f3 => unfold maxLen; omega
          case f4 => omega
          case f5 => have := L9.out.b.size; simp; omega
          intro v3 w3 hown hgrow hblk
          have L3 := Lib.hid (L9.out.push ((Below.refl _ _).alloc (Nat.le_refl _) _) hown hgrow)
          obtain ⟨p3, c3, rfl, -⟩ := owned_slice hown
          clear hown hgrow hblk OA NC L9
          go_wp2_with fail
          go_roundw
          case rel => exact ⟨k + 1, by go_num, by omega, L3⟩
          case measure => simp [intOf]; omega
        · have e : k = i := by omega
          subst e
          obtain ⟨gq, rfl, -, gq2⟩ := owned_some hL.out.o h0
          have RQ := Lib.hid (show ∀ j, j < k → wr.rangeAt gq (j * 54) LKp.cells from fun j hj => owned_rec (f := fun _ => LKp.cells) (fun _ _ => LN.out) hL.out.o hj)
          have M9 := Lib.hid (M8.out.below hL.out.b)
          have B10 := Lib.hid (B9.out.trans (hL.out.b.mono (by have := B9.out.size; omega)))
          have GQ := Lib.hid gq2
          clear gq2 hL M8 B9
          have CP := Lib.hid (c13b wr k gb cb (fun k => (S k).bx) (fun _ => LKp) _ _ ⟨lf33 _ k wr.heap.size, trivial, M9.out.rb, M9.out.lb, fun h => h, fun i hi => bxOK (H.out.1 i hi), fun i hi => LKp_OK, hn⟩)
          go_upto_region 20 with fail
          go_wp2_with fail
          go_at_call 13
          refine CP.out.mono fun e w5 ⟨ov, MS, OS, he, pr, ho, _, hk⟩ => ?_
          subst he
          have hb : Below wr.heap.size wr w5 := hk.below _ (Nat.le_refl _) (fun _ _ h => h)
          obtain ⟨po, co, rfl, -⟩ := owned_slice ho
          obtain ⟨go1, rfl, -, go2⟩ := owned_some ho h0
          have P5 := Lib.hid (And.intro pr (And.intro (PA_at (fun i hi => bxOK (H.out.1 i hi)) pr ho) go2))
          have M10 := Lib.hid (M9.out.below hb)
          have B11 := Lib.hid (B10.out.trans (hb.mono (by have := B10.out.size; omega)))
          have R10 := Lib.hid (show (∀ j, j < k → w5.rangeAt gq (j * 54) LKp.cells) ∧ gq < w5.heap.size from ⟨fun j hj => range_below (RQ.out j hj) hb GQ.out, Nat.lt_of_lt_of_le GQ.out hb.size⟩)
          clear pr ho hk hb go2 CP M9 B10 RQ GQ
          have CN := Lib.hid (fun cq => c9 w5 gb gq k cb cq (fun k => (S k).bx) (fun _ => LKp) (fun k hk => bxOK (H.out.1 k hk)) (fun k hk => LKp_OK) hn h0 M10.out.rb R10.out.1 M10.out.lb R10.out.2)
          go_wp2_with fail
          go_at_call 9
          refine (CN.out _).mono fun e w6 ⟨ov2, MS2, OS2, he, pr, ho, hb⟩ => ?_
          subst he
          obtain ⟨po2, co2, rfl, -⟩ := owned_slice ho
          obtain ⟨gp, rfl, -, gp2⟩ := owned_some ho h0
          have CT := Lib.hid (c10 w6 go1 gp k co co2 (PA (fun k => (S k).bx) (fun _ => LKp) k MS OS) (PA (fun k => (S k).bx) (fun _ => LKp) k MS2 OS2) (PA_OK (fun i hi => bxOK (H.out.1 i hi)) P5.out.1) (PA_OK (fun i hi => bxOK (H.out.1 i hi)) pr) (PA_Sim P5.out.1 pr)
            (fun k hk => range_below (P5.out.2.1 k hk) hb P5.out.2.2) (PA_at (fun i hi => bxOK (H.out.1 i hi)) pr ho) (Nat.lt_of_lt_of_le P5.out.2.2 hb.size) gp2 hn)
          have B12 := Lib.hid (B11.out.trans (hb.mono (by have := B11.out.size; omega)))
          clear pr ho hb gp2 P5 M10 R10 CN B11
          go_wp2_with fail
          go_at_call 10
          refine CT.out.mono fun e w7 ⟨he, hb⟩ => ?_
          subst he
          have B13 := Lib.hid (B12.out.trans (hb.mono (by have := B12.out.size; omega)))
          clear hb
          go_wp2
          go_ret
          exact ⟨rfl, B13.out⟩
end Go.Proofs.Ytedkbjimofiphaa

namespace Go.Proofs.Ytedkbjimofiphaa
open Go.RowKit Fl

set_option maxRecDepth 100000 in
set_option maxHeartbeats 8000000 in
theorem paints3z (w : World) (A : Option Addr) (c : Nat) : Calls Try.prog 3 #[.slice A 0 c] w fun e w' => e = .returned (.bool true) ∧ Below w.heap.size w w' := by
  obtain ⟨iB, b1, b2, b3, b4⟩ := info_parts infoB
  have IB := Lib.hid (And.intro b1 (And.intro b2 (And.intro b3 b4)))
  clear b1 b2 b3 b4
  have d0 : decide ((0 : Int) < 0) = false := by decide
  go_enter Try.func3, Try.ntmps3
  go_wp2_with fail
  go_at_call 6
  refine (awake6 w).mono ?_
  rintro e w1 ⟨rfl, hb1⟩
  have B1 := Lib.hid hb1
  clear hb1
  go_wp2_with fail
  go_at_call 7
  refine (c7z w1 A c).mono ?_
  rintro e w2 ⟨rfl, rfl⟩
  have OM := Lib.hid (World.ownsRow_made (base := w1.heap.size) (e := 35) (size := 7) w1 #[] 0 (Nat.le_refl _) (by unfold maxLen; omega) rfl)
  have ON := Lib.hid (World.ownsRow_nil (w1.alloc (.cells #[] 35)) w1.heap.size 35 7)
  go_upto_region 3 with fail
  go_wp2_with (at_builtin; refine wpList_append_row rfl _ _ 24 rfl w1.heap.size w1.heap.size 35 iB (.agg #[.int .u32 0, .int .u32 0, .int .i64 0, .float .f64 0, .float .f64 0, .float .f64 0, .float .f64 0]) 7 48 Try.underlying24 IB.out.1 IB.out.2.1 IB.out.2.2.1 IB.out.2.2.2 rfl (by decide) _ _ _ _ _ _ rfl OM.out rfl ON.out ?c2 ?c3 ?c4 ?c5 ?_)
  case c2 => exact fun u hu => by cases hu
  case c3 => unfold maxLen; omega
  case c4 => omega
  case c5 => simp
  intro v3 w3 hown hgrow
  have B3 := Lib.hid (show Below w1.heap.size w1 w3 from ((Below.refl _ _).alloc (Nat.le_refl _) (.cells #[] 35)).trans ((grown_keep OM.out hgrow (by simp) (fun _ => False)).below _ (Nat.le_refl _) (fun _ _ h => h)))
  obtain ⟨p3, c3, rfl, -⟩ := owned_slice hown
  have O3 := Lib.hid (hown.alloc (.cells ([Value.agg bx77.toArray].flatMap fun v => v.cells.toList).toArray 35))
  have NC3 := Lib.hid (new_row2 w3 bx77 35)
  clear hown hgrow OM ON
  go_wp2_with (first
    | (refine wpList_builtC rfl 35 [(1, .const (.int .i64 77))] rfl _ bx77.toArray rfl built77 ?_)
    | (refine Go.Great.wpList_buildRows rfl 24 35 #[(0, .tmp 24)] 7 [.agg bx77.toArray] rfl (fun _ => 24) w3.heap.size rfl (some 25) rfl Try.underlying24 (by rw [IB.out.1]; exact congrArg some IB.out.2.2.1) (by rw [IB.out.1, Option.bind_some, IB.out.2.1]; rfl) (by decide) (Nat.succ_pos 0) (show 1 * 7 ≤ 2 ^ 24 by decide) rfl (fun v hv => by rw [List.mem_singleton.1 hv]; rfl) (fun k hk => by match k, hk with | 0, _ => rfl) ?_)
    | (at_builtin; refine wpList_append_strong rfl _ _ 24 rfl w1.heap.size 35 iB (.agg #[.int .u32 0, .int .u32 0, .int .i64 0, .float .f64 0, .float .f64 0, .float .f64 0, .float .f64 0]) 7 48 Try.underlying24 IB.out.1 IB.out.2.1 IB.out.2.2.1 IB.out.2.2.2 rfl (by decide) _ _ _ rfl O3.out ⟨w3.heap.size, 0, none⟩ 1 1 bx77 rfl ?d0 NC3.out ?d2 ?d3 ?d4 ?d5 (by decide) ?_))
  case d0 => rfl
  case d2 =>
    intro u hu
    have h : u = .int .u32 0 ∨ u = .int .i64 77 ∨ u = .float .f64 0 := by simpa [bx77] using hu
    rcases h with rfl | rfl | rfl <;> rfl
  case d3 => unfold maxLen; omega
  case d4 => omega
  case d5 => have := B3.out.size; simp; omega
  intro v4 w4 hown hgrow hblk
  obtain ⟨p4, cm, rfl, -⟩ := owned_slice hown
  obtain ⟨gm, rfl, -, gm2⟩ := owned_some hown (by omega)
  have B4 : Below w1.heap.size w1 w4 := (B3.out.alloc B3.out.size _).trans ((grown_keep O3.out hgrow (by have := B3.out.size; simp; omega) (fun _ => False)).below _ (Nat.le_refl _) (fun _ _ h => h))
  have B5 := Lib.hid (B1.out.trans (B4.mono B1.out.size))
  have c77 : w4.cell? ⟨gm, 2, none⟩ = some (.int .i64 77) := hown.cellAt 2 (by decide)
  have C77 := Lib.hid (show ∀ w', Below w4.heap.size w4 w' → w'.cell? ⟨gm, 2, none⟩ = some (.int .i64 77) from fun w' hb => (hb.cell (p := ⟨gm, 2, none⟩) gm2).trans c77)
  have hcap : (0 : Int) ≤ (cm : Int) := by omega
  clear hown hgrow hblk O3 NC3 B4 gm2 B3 B1 c77
  go_wp2_with fail
  go_at_call 8
  refine (c8n w4 (some ⟨gm, 0, none⟩) cm).mono fun e w5 ⟨ov, he, ho, hb⟩ => ?_
  subst he
  obtain ⟨po, co, rfl, -⟩ := owned_slice ho
  have C5 := Lib.hid (C77.out w5 hb)
  have B6 := Lib.hid (B5.out.trans (hb.mono (by have := B5.out.size; omega)))
  clear ho hb B5 C77
  go_upto_region 5 with fail
  go_wp2_with fail
  go_at_call 9
  refine (c9z w5 none none 0 0).mono ?_
  rintro e w6 ⟨rfl, rfl⟩
  go_upto_region 6 with fail
  go_wp2_with fail
  go_at_call 10
  refine (c10z w6 po none co 0).mono ?_
  rintro e w7 ⟨rfl, rfl⟩
  have c77 := C5.out
  go_upto_region 9 with fail
  go_wp2_with fail
  go_loopw [11, 12] (fun ii _ wx => ii = .int .i64 0 ∧ w7 = wx) (fun _ _ _ => 0)
  case atStart => exact ⟨by go_num, rfl⟩
  case round =>
    obtain ⟨rfl, rfl⟩ := hrel
    go_wp2_with fail
    go_loopw [13, 14] (fun vv kk wx => vv = .slice none 0 0 ∧ kk = .int .i64 0 ∧ w7 = wx) (fun _ _ _ => 0)
    case atStart => exact ⟨rfl, by go_num, rfl⟩
    case round =>
      obtain ⟨rfl, rfl, rfl⟩ := hrel
      go_upto_region 20 with fail
      go_wp2_with fail
      go_at_call 13
      refine (c13m _ none 0).mono fun e w8 ⟨ov, he, ho, hb⟩ => ?_
      subst he
      obtain ⟨po, co, rfl, -⟩ := owned_slice ho
      have B8 := Lib.hid (B6.out.trans (hb.mono (by have := B6.out.size; omega)))
      clear ho hb
      go_wp2_with fail
      go_at_call 9
      refine (c9z w8 none none 0 0).mono ?_
      rintro e w9 ⟨rfl, rfl⟩
      go_wp2_with fail
      go_at_call 10
      refine (c10z w9 po none co 0).mono ?_
      rintro e w10 ⟨rfl, rfl⟩
      go_wp2
      go_ret
      exact ⟨rfl, B8.out⟩
end Go.Proofs.Ytedkbjimofiphaa

namespace Go.Proofs.Ytedkbjimofiphaa
open Go.RowKit
section
open Go.ChangeShapes Go.WideShapes Go.RowKit
variable {H : Type} {enc : TypeId × Value → H} {P : Program} {w : World}
theorem trod_floatQ {k : FloatKind} {e : TypeId} {n : Nat} {v : Value} {y : DataW H × List MemPlace} (he : P.underlying e = some (.float k)) (h : DataW.trod enc P w 0 (fun _ => true) true n e [v] = some y) : ∃ x, v = .float k x ∧ (Lit.float k x).wf = true := by
  cases n with
  | zero => simp [DataW.trod] at h
  | succ n =>
    unfold DataW.trod at h
    rw [he] at h
    split at h <;> simp_all
end
end Go.Proofs.Ytedkbjimofiphaa
