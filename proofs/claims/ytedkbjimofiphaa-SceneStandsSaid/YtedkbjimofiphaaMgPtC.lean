/- The walk of Paint. Paint by no looks' function; of no boxes. -/
import Derived.Test.YtedkbjimofiphaaMgPtD
namespace Go.Proofs.Ytedkbjimofiphaa
open Go.RowKit Fl
theorem info52 : (Try.prog.info? 52).map (·.size) = some 54 := by kernel_rfl
theorem info35 : (Try.prog.info? 35).map (·.size) = some 7 := by kernel_rfl
/-- what Paint is told -/
structure PI0 (w0 : World) (fn : Nat) (caps : Array Value) (b : Nat → BX) (l : Nat → LK) (n gb : Nat) (I : Nat → World → Prop) (ex : World → Nat → Prop) : Prop where
  H : LF fn caps b l n w0.heap.size I ex
  hI : I 0 w0
  hb : ∀ i, i < n → w0.rangeAt gb (i * 7) (b i).cells
  hg : gb < w0.heap.size
  hx : ¬ ex w0 gb
  bo : ∀ i, i < n → (b i).OK
  lo : ∀ i, i < n → (l i).OK
  hn : n ≤ 1048576
set_option maxRecDepth 100000 in
set_option maxHeartbeats 4000000 in
theorem c13a (w : World) (aq bq lq n gb c : Nat) (b : Nat → BX) (l : Nat → LK) (I : Nat → World → Prop) (ex : World → Nat → Prop) (P : PI0 w 26 #[.pointer (some ⟨aq, 0, none⟩), .pointer (some ⟨bq, 0, none⟩), .pointer (some ⟨lq, 0, none⟩)] b l n gb I ex) :
    Calls Try.prog 13 #[.slice (some ⟨gb, 0, none⟩) n c, .func (.func 26) #[] #[.pointer (some ⟨aq, 0, none⟩), .pointer (some ⟨bq, 0, none⟩), .pointer (some ⟨lq, 0, none⟩)]] w
      fun e w' => ∃ ov MS OS, e = .returned ov ∧ PR b l n MS OS ∧ w'.ownsRow w.heap.size 60 23 ov n ((whole n (abO b) (kf (lvO l))).flatMap (fun i => itCells (b i) (MS i) (OS i))) ∧ I n w' ∧ Keep w.heap.size (ex w) w w' := by
  obtain ⟨w1, mk, hg1, cs, hown, hcs⟩ := made90 w n P.hn
  have P1 := Lib.hid (PT.start (MS := fun _ => []) (OS := fun _ => 0) P.H P.hI hown hg1 hcs)
  have HP := Lib.hid P
  have hn := P.hn
  clear hg1 hown hcs P
  have eqn : (binOp .eql 81 (.func (.func 26) #[] #[.pointer (some ⟨aq, 0, none⟩), .pointer (some ⟨bq, 0, none⟩), .pointer (some ⟨lq, 0, none⟩)]) .nilFunc).run Try.prog w = .ok (.bool false) w := by rfl
  go_enter Try.func13, Try.ntmps13
  go_wp2_with fail
  go_loopw [6, 7, 8, 9, 10, 11, 12, 20] (fun tv _ _ _ _ _ _ ii wx => ∃ (i : Nat) (MS : Nat → List Nat) (OS : Nat → Nat) (kv : Nat → Value), ii = .int .i64 (i : Int) ∧ i ≤ n ∧ Hid (PT w wx w.heap.size w.heap.size n b l I ex i i i MS OS kv tv)) (fun _ _ _ _ _ _ _ ii _ => n - (intOf ii).toNat)
  case atStart => exact ⟨0, _, _, _, rfl, Nat.zero_le _, P1⟩
  case round =>
    obtain ⟨i, MS, OS, kv, rfl, hin, hP⟩ := hrel
    clear P1
    by_cases hlt : i < n
    · have hii : (i : Int) < (n : Int) := by omega
      have RB := Lib.hid (range_keep (HP.out.hb i hlt) hP.out.kp HP.out.hg HP.out.hx)
      have S7 := Lib.hid (show (Try.prog.info? 35).map (·.size) = some (b i).cells.length from info35)
      have OB := Lib.hid (box_one (b i))
      have TB := Lib.hid (there_new wr #[.int .u32 0, .int .u32 0, .int .i64 0, .float .f64 0, .float .f64 0, .float .f64 0, .float .f64 0] 35 7 rfl)
      have NB := Lib.hid (hP.out.newRow HP.out.H #[.int .u32 0, .int .u32 0, .int .i64 0, .float .f64 0, .float .f64 0, .float .f64 0, .float .f64 0] 35 (b i).cells rfl)
      go_upto_region 8 with (first
        | (refine wpList_load_mid rfl 35 (.tmp 23) rfl gb (i * 7) rfl (b i).cells _ RB.out Try.underlying35 rfl S7.out ?_)
        | (refine wpList_store_mid rfl 35 (.tmp 8) (.tmp 24) rfl wr.heap.size 0 (b i).cells.toArray rfl rfl TB.out info35 OB.out ?_))
      obtain ⟨P2, LB, B2, z2, x2⟩ := NB.out
      generalize (wr.alloc (.cells #[.int .u32 0, .int .u32 0, .int .i64 0, .float .f64 0, .float .f64 0, .float .f64 0, .float .f64 0] 35)).setCells wr.heap.size 0 (b i).cells = w2 at *
      have Q2 := Lib.hid (And.intro P2 LB)
      have hgz := hP.out.gl
      have hkb : (∀ k g, k < n → (kv k).ownBlock = some g → g < wr.heap.size) ∧ (∀ g, u6.ownBlock = some g → g < wr.heap.size) := ⟨fun k g hk hg => ((hP.out.ko k hk).lt g hg).2, fun g hg => (hP.out.tp.lt g hg).2⟩
      generalize wr.heap.size = bz at *
      have HGZ := Lib.hid (And.intro hgz hkb)
      have c0 := LB.get (j := 0) (v := .int .u32 ((b i).sl : Int)) rfl
      have c1 := LB.get (j := 1) (v := .int .u32 ((b i).gn : Int)) rfl
      have HC := Lib.hid (HP.out.H.call i w2 hlt P2.inv P2.hB)
      clear NB TB OB P2 LB B2 z2 x2 RB S7 hgz hkb hP
      go_wp2_with fail
      go_at_call 26
      refine (show Calls Try.prog 26 #[.agg #[.int .u32 ((b i).sl : Int), .int .u32 ((b i).gn : Int)], .pointer (some ⟨aq, 0, none⟩), .pointer (some ⟨bq, 0, none⟩), .pointer (some ⟨lq, 0, none⟩)] w2 _ from HC.out).mono fun e w3 ⟨he, i3, k3, x3⟩ => ?_
      subst he
      have P3 := Q2.out.1.called k3 i3 x3
      have LB3 := Q2.out.2.keep k3 Q2.out.2.x x3
      have LL := lk_len (HP.out.lo i hlt)
      have E54 : (l i).cells.toArray.size = 54 := by rw [List.size_toArray]; exact LL
      have TL := Lib.hid (there_new w3 (List.toArray (.int .i64 0 :: .float .f64 0 :: .float .f64 0 :: .float .f64 0 :: .int .i64 0 :: .float .f64 0 :: .int .i64 0 :: .float .f64 0 :: .int .i64 0 :: .float .f64 0 :: .int .i64 0 :: .float .f64 0 :: .int .i64 0 :: .float .f64 0 :: .int .i64 0 :: .float .f64 0 :: .int .i64 0 :: .float .f64 0 :: .int .i64 0 :: .float .f64 0 :: .int .i64 0 :: .float .f64 0 :: .int .i64 0 :: .float .f64 0 :: .int .i64 0 :: .float .f64 0 :: .int .i64 0 :: .float .f64 0 :: .int .i64 0 :: .float .f64 0 :: .int .i64 0 :: .float .f64 0 :: .float .f64 0 :: .float .f64 0 :: .int .i64 0 :: .float .f64 0 :: .int .i64 0 :: .float .f64 0 :: .float .f64 0 :: .float .f64 0 :: .float .f64 0 :: .float .f64 0 :: .float .f64 0 :: .float .f64 0 :: .float .f64 0 :: .float .f64 0 :: .float .f64 0 :: .float .f64 0 :: .float .f64 0 :: .float .f64 0 :: .float .f64 0 :: .float .f64 0 :: .float .f64 0 :: .float .f64 0 :: [])) 52 54 rfl)
      have SL := Lib.hid (show (Try.prog.info? 52).map (·.size) = some (l i).cells.toArray.size by rw [E54]; exact info52)
      have TL2 := Lib.hid (show (w3.alloc (.cells (List.toArray (.int .i64 0 :: .float .f64 0 :: .float .f64 0 :: .float .f64 0 :: .int .i64 0 :: .float .f64 0 :: .int .i64 0 :: .float .f64 0 :: .int .i64 0 :: .float .f64 0 :: .int .i64 0 :: .float .f64 0 :: .int .i64 0 :: .float .f64 0 :: .int .i64 0 :: .float .f64 0 :: .int .i64 0 :: .float .f64 0 :: .int .i64 0 :: .float .f64 0 :: .int .i64 0 :: .float .f64 0 :: .int .i64 0 :: .float .f64 0 :: .int .i64 0 :: .float .f64 0 :: .int .i64 0 :: .float .f64 0 :: .int .i64 0 :: .float .f64 0 :: .int .i64 0 :: .float .f64 0 :: .float .f64 0 :: .float .f64 0 :: .int .i64 0 :: .float .f64 0 :: .int .i64 0 :: .float .f64 0 :: .float .f64 0 :: .float .f64 0 :: .float .f64 0 :: .float .f64 0 :: .float .f64 0 :: .float .f64 0 :: .float .f64 0 :: .float .f64 0 :: .float .f64 0 :: .float .f64 0 :: .float .f64 0 :: .float .f64 0 :: .float .f64 0 :: .float .f64 0 :: .float .f64 0 :: .float .f64 0 :: [])) 52)).there w3.heap.size 0 (l i).cells.toArray.size by rw [E54]; exact TL.out)
      have OL := Lib.hid (all_oneCell_toArray (lk_one (l i)))
      have NL := Lib.hid (P3.newRow HP.out.H (List.toArray (.int .i64 0 :: .float .f64 0 :: .float .f64 0 :: .float .f64 0 :: .int .i64 0 :: .float .f64 0 :: .int .i64 0 :: .float .f64 0 :: .int .i64 0 :: .float .f64 0 :: .int .i64 0 :: .float .f64 0 :: .int .i64 0 :: .float .f64 0 :: .int .i64 0 :: .float .f64 0 :: .int .i64 0 :: .float .f64 0 :: .int .i64 0 :: .float .f64 0 :: .int .i64 0 :: .float .f64 0 :: .int .i64 0 :: .float .f64 0 :: .int .i64 0 :: .float .f64 0 :: .int .i64 0 :: .float .f64 0 :: .int .i64 0 :: .float .f64 0 :: .int .i64 0 :: .float .f64 0 :: .float .f64 0 :: .float .f64 0 :: .int .i64 0 :: .float .f64 0 :: .int .i64 0 :: .float .f64 0 :: .float .f64 0 :: .float .f64 0 :: .float .f64 0 :: .float .f64 0 :: .float .f64 0 :: .float .f64 0 :: .float .f64 0 :: .float .f64 0 :: .float .f64 0 :: .float .f64 0 :: .float .f64 0 :: .float .f64 0 :: .float .f64 0 :: .float .f64 0 :: .float .f64 0 :: .float .f64 0 :: [])) 52 (l i).cells LL.symm)
      have Q3 := Lib.hid (And.intro P3 LB3)
      clear HC Q2 c0 c1 i3 k3 x3 P3 LB3 LL E54
      go_upto_region 9 with (first
        | (refine wpList_store_mid rfl 52 (.tmp 9) (.tmp 28) rfl w3.heap.size 0 (l i).cells.toArray rfl rfl TL2.out SL.out OL.out ?_))
      obtain ⟨P4, LL4, B4, z4, x4⟩ := NL.out
      have LB4 := Q3.out.2.keep (e := fun _ => False) (Keep.of_below B4) (fun h => h) (fun k hk => Or.inl (x4 k hk))
      generalize (w3.alloc (.cells (List.toArray (.int .i64 0 :: .float .f64 0 :: .float .f64 0 :: .float .f64 0 :: .int .i64 0 :: .float .f64 0 :: .int .i64 0 :: .float .f64 0 :: .int .i64 0 :: .float .f64 0 :: .int .i64 0 :: .float .f64 0 :: .int .i64 0 :: .float .f64 0 :: .int .i64 0 :: .float .f64 0 :: .int .i64 0 :: .float .f64 0 :: .int .i64 0 :: .float .f64 0 :: .int .i64 0 :: .float .f64 0 :: .int .i64 0 :: .float .f64 0 :: .int .i64 0 :: .float .f64 0 :: .int .i64 0 :: .float .f64 0 :: .int .i64 0 :: .float .f64 0 :: .int .i64 0 :: .float .f64 0 :: .float .f64 0 :: .float .f64 0 :: .int .i64 0 :: .float .f64 0 :: .int .i64 0 :: .float .f64 0 :: .float .f64 0 :: .float .f64 0 :: .float .f64 0 :: .float .f64 0 :: .float .f64 0 :: .float .f64 0 :: .float .f64 0 :: .float .f64 0 :: .float .f64 0 :: .float .f64 0 :: .float .f64 0 :: .float .f64 0 :: .float .f64 0 :: .float .f64 0 :: .float .f64 0 :: .float .f64 0 :: [])) 52)).setCells w3.heap.size 0 (l i).cells = w4 at *
      have hbl := Q3.out.2.l
      generalize w3.heap.size = lz at *
      have HBL := Lib.hid hbl
      have Q4 := Lib.hid (And.intro P4 (And.intro LB4 LL4))
      clear NL TL TL2 SL OL Q3 P4 LL4 B4 z4 x4 LB4 hbl
      go_wp2_with fail
      have HK := k87 w4
      obtain ⟨m0, em0, M0⟩ : ∃ m0, m0 = idL ∧ MU m0 := ⟨_, rfl, idL_MU⟩
      rw [← em0] at HK
      have EM0 := Lib.hid (And.intro em0 M0)
      have S0 : (m0.map (Value.float .f64)).toArray.size = 16 := by rw [List.size_toArray, List.length_map]; exact M0.1
      clear em0 M0
      go_at_call 34
      refine HK.mono fun e w5 ⟨he, b5⟩ => ?_
      subst he
      have xb5 := Q4.out.1.xb HP.out.H b5
      have P5 := Q4.out.1.below HP.out.H b5
      have LB5 := Q4.out.2.1.keep (e := fun _ => False) (Keep.of_below b5) (fun h => h) xb5
      have LL5 := Q4.out.2.2.keep (e := fun _ => False) (Keep.of_below b5) (fun h => h) xb5
      have NM := Lib.hid (P5.newRow HP.out.H #[.float .f64 0, .float .f64 0, .float .f64 0, .float .f64 0, .float .f64 0, .float .f64 0, .float .f64 0, .float .f64 0, .float .f64 0, .float .f64 0, .float .f64 0, .float .f64 0, .float .f64 0, .float .f64 0, .float .f64 0, .float .f64 0] 44 (m0.map (Value.float .f64)) (by rw [List.length_map, EM0.out.2.1]; rfl))
      have TM := Lib.hid (there_new w5 #[.float .f64 0, .float .f64 0, .float .f64 0, .float .f64 0, .float .f64 0, .float .f64 0, .float .f64 0, .float .f64 0, .float .f64 0, .float .f64 0, .float .f64 0, .float .f64 0, .float .f64 0, .float .f64 0, .float .f64 0, .float .f64 0] 44 16 rfl)
      have TM := Lib.hid (show (w5.alloc (.cells #[.float .f64 0, .float .f64 0, .float .f64 0, .float .f64 0, .float .f64 0, .float .f64 0, .float .f64 0, .float .f64 0, .float .f64 0, .float .f64 0, .float .f64 0, .float .f64 0, .float .f64 0, .float .f64 0, .float .f64 0, .float .f64 0] 44)).there w5.heap.size 0 (m0.map (Value.float .f64)).toArray.size by rw [S0]; exact TM.out)
      have Q5 := Lib.hid (And.intro P5 (And.intro LB5 LL5))
      have E2 := Lib.hid (size80A m0 EM0.out.2.1)
      clear Q4 xb5 P5 LB5 LL5 b5 HK S0
      go_upto_region 10 with (first
        | (refine wpList_store_mid rfl 44 (.tmp 10) (.tmp 29) rfl w5.heap.size 0 (m0.map (Value.float .f64)).toArray rfl rfl TM.out E2.out (one16 m0) ?_))
      obtain ⟨P6, LM6, B6, z6, x6⟩ := NM.out
      have xb6 : ∀ k, ex _ k → ex w5 k ∨ w5.heap.size ≤ k := fun k hk => Or.inl (x6 k hk)
      have LB6 := Q5.out.2.1.keep (e := fun _ => False) (Keep.of_below B6) (fun h => h) xb6
      have LL6 := Q5.out.2.2.keep (e := fun _ => False) (Keep.of_below B6) (fun h => h) xb6
      generalize (w5.alloc (.cells #[.float .f64 0, .float .f64 0, .float .f64 0, .float .f64 0, .float .f64 0, .float .f64 0, .float .f64 0, .float .f64 0, .float .f64 0, .float .f64 0, .float .f64 0, .float .f64 0, .float .f64 0, .float .f64 0, .float .f64 0, .float .f64 0] 44)).setCells w5.heap.size 0 (m0.map (Value.float .f64)) = w6 at *
      have hlm := Q5.out.2.2.l
      have hbm := Q5.out.2.1.l
      have hgm := Q5.out.1.gl
      generalize w5.heap.size = mz at *
      have HLM := Lib.hid (And.intro hbm (And.intro hlm hgm))
      have Q6 := Lib.hid (And.intro P6 (And.intro LB6 (And.intro LL6 LM6)))
      clear NM TM Q5 P6 LB6 LL6 LM6 B6 z6 x6 xb6 hlm hbm hgm E2
      have ca := Q6.out.2.1.get (j := 2) (v := .int .i64 (b i).ab) rfl
      go_cut [38] (fun v wx => ∃ t : Bool, v = .bool t ∧ Hid (if t then 0 ≤ (b i).ab ∧ (b i).ab < (i : Int) else ¬ (0 ≤ (b i).ab ∧ (b i).ab < (i : Int))) ∧ Hid (wx = w6))
      case first =>
        by_cases h1 : 0 ≤ (b i).ab
        · by_cases h2 : (b i).ab < (i : Int)
          · have X := Lib.hid (show if true = true then 0 ≤ (b i).ab ∧ (b i).ab < (i : Int) else ¬ (0 ≤ (b i).ab ∧ (b i).ab < (i : Int)) from ⟨h1, h2⟩)
            go_wp2
            go_meet
            exact ⟨true, rfl, X, Lib.hid rfl⟩
          · have X := Lib.hid (show if false = true then 0 ≤ (b i).ab ∧ (b i).ab < (i : Int) else ¬ (0 ≤ (b i).ab ∧ (b i).ab < (i : Int)) from fun h => h2 h.2)
            go_wp2
            go_meet
            exact ⟨false, rfl, X, Lib.hid rfl⟩
        · have hd : decide (0 ≤ (b i).ab) = false := decide_eq_false h1
          have X := Lib.hid (show if false = true then 0 ≤ (b i).ab ∧ (b i).ab < (i : Int) else ¬ (0 ≤ (b i).ab ∧ (b i).ab < (i : Int)) from fun h => h1 h.1)
          go_wp2
          go_meet
          exact ⟨false, rfl, X, Lib.hid rfl⟩
      case rest =>
      obtain ⟨t, rfl, hT, hw⟩ := hcut
      obtain rfl := hw.out.symm
      clear hw ca
      obtain ⟨i0, hi3, hz0, hz1, hz2⟩ := info_parts info3
      have HI := Lib.hid (And.intro hi3 (And.intro hz0 (And.intro hz1 hz2)))
      clear hi3 hz0 hz1 hz2
      go_upto_if 38 with fail
      go_cut [6, 11, 12] (fun tv' o _ wx => ∃ (kv' : Nat → Value) (ow : Nat) (mu : List Nat), o = .float .f64 ow ∧ Hid (U ow ∧ pl ow = upO OS (abO b i) ∧ MU mu ∧ ∀ j, j < 16 → mp mu j = upM MS (abO b i) j) ∧
        Hid (PT w wx w.heap.size w.heap.size n b l I ex (i + 1) (i + 1) i MS OS kv' tv' ∧ Loc wx ex w.heap.size bz (b i).cells ∧ Loc wx ex w.heap.size lz (l i).cells ∧ Loc wx ex w.heap.size mz (mu.map (Value.float .f64))) ∧
        Hid ((∀ k, k < n → (kv' k).ownBlock ≠ some mz) ∧ tv'.ownBlock ≠ some mz))
      case first =>
        cases t with
        | true =>
          have hT2 : 0 ≤ (b i).ab ∧ (b i).ab < (i : Int) := hT.out
          obtain ⟨k, hk⟩ : ∃ k : Nat, (b i).ab = (k : Int) := ⟨(b i).ab.toNat, by omega⟩
          have hab : abO b i = some k := by unfold abO; rw [if_pos hT2, hk]; rfl
          have hki : k < i := abO_lt hab
          have ca := Q6.out.2.1.get (j := 2) (v := .int .i64 (k : Int)) (by show some (Value.int IntKind.i64 (b i).ab) = _; rw [hk])
          have hkn : (k : Int) < (n : Int) := by omega
          have HK := Lib.hid (And.intro hab (And.intro hki hk))
          clear hT2 hk hab
          go_upto_region 12 with fail
          have hki := HK.out.2.1
          have hne : w.heap.size ≠ mz := by have := HLM.out.2.2; omega
          refine reg12 w6 mz w.heap.size (k * 25) (OS k) (MS k) _ _ _ _ _ _ _ _ _ _ _ _ _ _ _ _ _ _ _ _ _ _ _ _ _ _ _ _ _ _ _ _ _ _ _ _ _ _ _ _ _ _ _ _ _ _ _ _ _ _ _ _ _ _ _ _ _ _ _ _ _ _ _ _ _ _ _ _ _ _ _ _ _ _ _ _ _ _ _ _ _ _ _ _ _ _ _ _ _ _ _ _ _ _ _ _ _ _ _ _ _ _ _ _ _ _ _ _ _ _ _ _ _ (Q6.out.1.pr.mu k hki) (range_mat (Q6.out.1.it k hki)) (cell_op (Q6.out.1.pr.mu k hki) (Q6.out.1.it k hki)) (by have := Q6.out.2.2.2.t; rwa [List.length_map, EM0.out.2.1] at this) hne (fun v43 v44 v45 v46 v47 v48 v49 v50 v51 v52 => ?_)
          have P7 := Q6.out.1.below HP.out.H (Below.refl _ _).drew
          have x7 := Q6.out.1.xb HP.out.H ((Below.refl w6.heap.size w6).drew)
          have K7 : Keep w6.heap.size (fun _ => False) w6 w6.drew := Keep.of_below (Below.refl _ _).drew
          have LB7 := Q6.out.2.1.keep K7 (fun h => h) x7
          have LL7 := Q6.out.2.2.1.keep K7 (fun h => h) x7
          have LM7 := Q6.out.2.2.2.keep K7 (fun h => h) x7
          have nk : ∀ k, k < n → (kv k).ownBlock ≠ some mz := fun k hk e => by have := HGZ.out.2.1 k mz hk e; have := HLM.out.1; omega
          have nt : u6.ownBlock ≠ some mz := fun e => by have := HGZ.out.2.2 mz e; have := HLM.out.1; omega
          have hbm : bz ≠ mz := by have := HLM.out.1; omega
          have hlm : lz ≠ mz := by have := HLM.out.2.1; omega
          obtain ⟨P8, LM8, K8, x8⟩ := P7.mset HP.out.H LM7 (cs' := (MS k).map (Value.float .f64)) (by rw [List.length_map, List.length_map, (Q6.out.1.pr.mu k hki).1, EM0.out.2.1]) hne.symm nk nt
          have LB8 := LB7.keep K8 hbm (fun j hj => Or.inl (x8 j hj))
          have LL8 := LL7.keep K8 hlm (fun j hj => Or.inl (x8 j hj))
          generalize w6.drew.setCells mz 0 ((MS k).map (Value.float .f64)) = w8 at *
          have UO := Lib.hid (show U (OS k) ∧ pl (OS k) = upO OS (abO b i) ∧ MU (MS k) ∧ ∀ j, j < 16 → mp (MS k) j = upM MS (abO b i) j by
            rw [HK.out.1]; exact ⟨Q6.out.1.pr.ou k hki, rfl, Q6.out.1.pr.mu k hki, fun _ _ => rfl⟩)
          have Q8 := Lib.hid (And.intro P8 (And.intro LB8 (And.intro LL8 LM8)))
          have ck := P8.kc k (by omega)
          have NC := Lib.hid (new_one w8 (iv i) 3)
          have OA := Lib.hid ((P8.ko k (by omega)).alloc (.cells #[iv i] 3))
          have hkl : (kids i (abO b) (some k)).length ≤ 1048576 := by
            have h1 := List.length_filter_le (fun j => abO b j == some k) (List.range i)
            rw [List.length_range] at h1
            have h2 : (kids i (abO b) (some k)).length = ((List.range i).filter (fun j => abO b j == some k)).length := rfl
            omega
          have HKL := Lib.hid hkl
          have HN := Lib.hid (And.intro nk nt)
          clear P7 x7 K7 LB7 LL7 LM7 nk nt hbm hlm P8 LM8 K8 x8 LB8 LL8 hkl ca hne hki
          go_wp2_with (at_builtin; refine wpList_append_strong rfl _ _ 58 rfl w.heap.size 3 i0 (.int .i64 0) 1 8 Try.underlying58 HI.out.1 HI.out.2.1 HI.out.2.2.1 HI.out.2.2.2 rfl (by decide) _ _ _ rfl OA.out ⟨w8.heap.size, 0, none⟩ 1 1 [iv i] rfl rfl NC.out (iv_one (l := [i])) ?d3 ?d4 ?d5 (by decide) ?_)
          case d3 => have := HKL.out; unfold maxLen; omega
          case d4 => have := HKL.out; omega
          case d5 => have := Q8.out.1.hB; simp; omega
          intro v9 w9 hown hgrow hblk
          obtain ⟨⟨c24, f24⟩, P9, K9, x9, nb9⟩ := Q8.out.1.kid HP.out.H (by omega) HK.out.1 _ hown hgrow (by simpa using hblk)
          obtain ⟨p9, cp9, rfl, -⟩ := owned_slice hown
          have hl8 := Q8.out.2.2.2.l
          have nk9 : ∀ (g : Nat), bz ≤ g → g < w8.heap.size → ¬ ((kv k).ownBlock = some g ∨ g = w.heap.size) := fun g h1 h2 e => by
            rcases e with e | e
            · have := HGZ.out.2.1 k g (by omega) e; omega
            · have := HGZ.out.1; omega
          have LB9 := Q8.out.2.1.keep K9 (nk9 _ (Nat.le_refl _) Q8.out.2.1.l) (fun j hj => Or.inl (x9 j hj))
          have LL9 := Q8.out.2.2.1.keep K9 (nk9 _ (by have := HBL.out; omega) Q8.out.2.2.1.l) (fun j hj => Or.inl (x9 j hj))
          have LM9 := Q8.out.2.2.2.keep K9 (nk9 _ (by have := HLM.out.1; omega) Q8.out.2.2.2.l) (fun j hj => Or.inl (x9 j hj))
          have HN9 := Lib.hid (show (∀ j, j < n → ((fun j => if j = k then Value.slice p9 ((kids i (abO b) (some k)).length + 1) cp9 else kv j) j).ownBlock ≠ some mz) ∧ u6.ownBlock ≠ some mz from by
            refine ⟨fun j hj e => ?_, HN.out.2⟩
            by_cases a1 : j = k
            · simp only [if_pos a1] at e
              rcases nb9 mz e with h1 | h1
              · exact HN.out.1 k (by omega) h1
              · omega
            · simp only [if_neg a1] at e
              exact HN.out.1 j hj e)
          have Q9 := Lib.hid (And.intro P9 (And.intro LB9 (And.intro LL9 LM9)))
          clear P9 K9 x9 nb9 hl8 nk9 LB9 LL9 LM9 hown hgrow hblk Q8 OA NC ck
          go_wp2
          go_meet
          exact ⟨_, OS k, MS k, rfl, UO, Q9, HN9⟩
        | false =>
          have hT2 : ¬ (0 ≤ (b i).ab ∧ (b i).ab < (i : Int)) := hT.out
          have hab : abO b i = none := by unfold abO; rw [if_neg hT2]
          have HAB := Lib.hid hab
          have nk : ∀ k, k < n → (kv k).ownBlock ≠ some mz := fun k hk e => by have := HGZ.out.2.1 k mz hk e; have := HLM.out.1; omega
          have HNK := Lib.hid nk
          have UO := Lib.hid (show U 4607182418800017408 ∧ pl 4607182418800017408 = upO OS (abO b i) ∧ MU m0 ∧ ∀ j, j < 16 → mp m0 j = upM MS (abO b i) j by
            rw [hab, EM0.out.1]; exact ⟨by unfold U; decide, rfl, idL_MU, fun _ _ => rfl⟩)
          have NC := Lib.hid (new_one w6 (iv i) 3)
          have OA := Lib.hid (Q6.out.1.tp.alloc (.cells #[iv i] 3))
          have hkl : (kids i (abO b) none).length ≤ 1048576 := by
            have h1 := List.length_filter_le (fun j => abO b j == none) (List.range i)
            rw [List.length_range] at h1
            have h2 : (kids i (abO b) none).length = ((List.range i).filter (fun j => abO b j == none)).length := rfl
            omega
          have HKL := Lib.hid hkl
          clear hT2 hab nk hkl
          go_wp2_with (at_builtin; refine wpList_append_strong rfl _ _ 58 rfl w.heap.size 3 i0 (.int .i64 0) 1 8 Try.underlying58 HI.out.1 HI.out.2.1 HI.out.2.2.1 HI.out.2.2.2 rfl (by decide) _ _ _ rfl OA.out ⟨w6.heap.size, 0, none⟩ 1 1 [iv i] rfl rfl NC.out (iv_one (l := [i])) ?d3 ?d4 ?d5 (by decide) ?_)
          case d3 => have := HKL.out; unfold maxLen; omega
          case d4 => have := HKL.out; omega
          case d5 => have := Q6.out.1.hB; simp; omega
          intro v9 w9 hown hgrow hblk
          obtain ⟨P9, K9, x9, nb9⟩ := Q6.out.1.top HP.out.H HAB.out _ hown hgrow (by simpa using hblk)
          have hl6 := Q6.out.2.2.2.l
          have nk9 : ∀ (g : Nat), bz ≤ g → ¬ (u6.ownBlock = some g) := fun g h1 e => by have := HGZ.out.2.2 g e; omega
          have LB9 := Q6.out.2.1.keep K9 (nk9 _ (Nat.le_refl _)) (fun j hj => Or.inl (x9 j hj))
          have LL9 := Q6.out.2.2.1.keep K9 (nk9 _ (by have := HBL.out; omega)) (fun j hj => Or.inl (x9 j hj))
          have LM9 := Q6.out.2.2.2.keep K9 (nk9 _ (by have := HLM.out.1; omega)) (fun j hj => Or.inl (x9 j hj))
          have HN9 := Lib.hid (show (∀ j, j < n → (kv j).ownBlock ≠ some mz) ∧ v9.ownBlock ≠ some mz from ⟨HNK.out, fun e => by
            rcases nb9 mz e with h1 | h1
            · exact nk9 mz (by have := HLM.out.1; omega) h1
            · omega⟩)
          have Q9 := Lib.hid (And.intro P9 (And.intro LB9 (And.intro LL9 LM9)))
          clear P9 K9 x9 nb9 hl6 nk9 LB9 LL9 LM9 hown hgrow hblk OA NC
          go_wp2
          go_meet
          exact ⟨kv, _, m0, rfl, UO, Q9, HN9⟩
      case rest =>
      obtain ⟨kv', ow, mu, rfl, hU, hQ, hN⟩ := hcut
      clear hT Q6 EM0
      go_upto_region 15 with fail
      refine reg15 wc bz lz mz (b i).x (b i).y mu (l i).m _ _ _ _ _ _ _ _ _ _ _ _ _ _ _ _ _ _ _ _ _ _ _ _ _ _ _ _ _ _ _ _ _ _ _ _ _ _ _ _ _ _ _ _ _ _ _ _ _ _ _ _ _ _ _ _ _ _ _ _ _ _ _ _ _ _ _ _ _ _ _ _ _ _ _ _ _ _ _ _ _ _ _ _ _ _ _ _ _ _ _ _ _ _ _ _ _ _ _ _ _ _ _ _ _ _ _ _ _ _ _ _ hU.out.2.2.1 (HP.out.lo i hlt).m (HP.out.bo i hlt).x (HP.out.bo i hlt).y hQ.out.2.2.2.r (lk_mat hQ.out.2.2.1.r) (hQ.out.2.1.get (j := 3) rfl) (hQ.out.2.1.get (j := 4) rfl)
        (by have := hQ.out.2.2.2.t; rwa [List.length_map, hU.out.2.2.1.1] at this) hQ.out.2.1.l hQ.out.2.2.1.l hQ.out.2.2.2.l (fun v67 v68 v69 v70 v71 v72 v73 v74 v75 v76 v77 v78 w10 mf hb hmu hme => ?_)
      have P10 := hQ.out.1.below HP.out.H hb
      have x10 := hQ.out.1.xb HP.out.H hb
      have K10 : Keep wc.heap.size (fun _ => False) wc w10 := Keep.of_below hb
      have LB10 := hQ.out.2.1.keep K10 (fun h => h) x10
      have LL10 := hQ.out.2.2.1.keep K10 (fun h => h) x10
      have LM10 := hQ.out.2.2.2.keep K10 (fun h => h) x10
      have hbm : bz ≠ mz := by have := HLM.out.1; omega
      have hlm : lz ≠ mz := by have := HLM.out.2.1; omega
      have hne : mz ≠ w.heap.size := by have := HLM.out.2.2; omega
      obtain ⟨P11, LM11, K11, x11⟩ := P10.mset HP.out.H LM10 (cs' := mf.map (Value.float .f64)) (by rw [List.length_map, List.length_map, hmu.1, hU.out.2.2.1.1]) hne hN.out.1 hN.out.2
      have LB11 := LB10.keep K11 hbm (fun j hj => Or.inl (x11 j hj))
      have LL11 := LL10.keep K11 hlm (fun j hj => Or.inl (x11 j hj))
      generalize w10.setCells mz 0 (mf.map (Value.float .f64)) = w11 at *
      have Q11 := Lib.hid (And.intro P11 (And.intro LB11 (And.intro LL11 LM11)))
      have c0 := LB11.get (j := 0) (v := .int .u32 ((b i).sl : Int)) rfl
      have c1 := LB11.get (j := 1) (v := .int .u32 ((b i).gn : Int)) rfl
      have c5 := LB11.get (j := 5) (v := .float .f64 (b i).w) rfl
      have c6 := LB11.get (j := 6) (v := .float .f64 (b i).h) rfl
      have co := lk_o LL11.r
      have RM := Lib.hid LM11.r
      have SM := Lib.hid (size80L mf hmu.1)
      have HME := Lib.hid (show MU mf ∧ ∀ j, j < 16 → mp mf j = timesP (timesP (upM MS (abO b i)) (mp (moveL (b i).x (b i).y 0))) (mp (l i).m) j from ⟨hmu, fun j hj => (hme j hj).trans (timesP_congr (fun t ht => timesP_congr hU.out.2.2.2 (fun _ _ => rfl) ht) (fun _ _ => rfl) hj)⟩)
      clear P10 x10 K10 LB10 LL10 LM10 hbm hlm hne P11 LM11 K11 x11 LB11 LL11 hb hmu hme
      obtain ⟨r, nr, hrun, ur, hr⟩ := run_mul ow (l i).o w11 hU.out.1 (HP.out.lo i hlt).o
      have HRR := Lib.hid (show U r ∧ pl r = opP .mul (upO OS (abO b i)) (pl (l i).o) by rw [← hU.out.2.1]; exact ⟨ur, hr⟩)
      clear ur hr
      have P12 := Q11.out.1.below HP.out.H (show Below w11.heap.size w11 (w11.drewN nr) from ⟨rfl, rfl, rfl, Nat.le_refl _, fun _ _ => rfl⟩)
      have x12 := Q11.out.1.xb HP.out.H (show Below w11.heap.size w11 (w11.drewN nr) from ⟨rfl, rfl, rfl, Nat.le_refl _, fun _ _ => rfl⟩)
      have LL12 := Q11.out.2.2.1.keep (e := fun _ => False) (Keep.of_below (show Below w11.heap.size w11 (w11.drewN nr) from ⟨rfl, rfl, rfl, Nat.le_refl _, fun _ _ => rfl⟩)) (fun h => h) x12
      have BT := Lib.hid (built60 (b i) r mf HME.out.1.1)
      have S60 := Lib.hid (info60s (b i) r HME.out.1)
      have O60 := Lib.hid (all_oneCell_toArray (it_one (b i) mf r))
      have TH := P12.th
      have T60 := Lib.hid (show (w11.drewN nr).there w.heap.size (i * 25) (itCells (b i) mf r).toArray.size by
        have e23 : (itCells (b i) mf r).toArray.size = 23 := by rw [List.size_toArray]; exact it_len HME.out.1
        rw [e23]
        intro j hj
        have := TH (i * 25 + j) (by omega)
        rwa [Nat.zero_add] at this)
      have Q12 := Lib.hid (And.intro P12 LL12)
      clear P12 x12 LL12 TH
      go_upto_region 17 with (first
        | (refine wpList_load_mid rfl 44 (.tmp 10) rfl mz 0 rfl (mf.map (Value.float .f64)) _ RM.out Try.underlying44 rfl SM.out ?_)
        | (refine wpList_builtC rfl 60 [(0, .tmp 82), (1, .tmp 89), (2, .tmp 90), (3, .tmp 94)] rfl [(0, .agg #[.int .u32 ((b i).sl : Int), .int .u32 ((b i).gn : Int)]), (1, .agg #[.float .f64 0, .float .f64 0, .float .f64 (b i).w, .float .f64 (b i).h]), (2, .agg (mf.map (Value.float .f64)).toArray), (3, .float .f64 r)] (itCells (b i) mf r).toArray rfl BT.out ?_)
        | (refine wpList_store_mid rfl 60 (.tmp 97) (.tmp 95) rfl w.heap.size (i * 25) (itCells (b i) mf r).toArray rfl rfl T60.out S60.out O60.out ?_))
      have x12 : ∀ k, ex (w11.drewN nr) k → ex (w11.drewN nr) k ∨ (w11.drewN nr).heap.size ≤ k := fun _ h => Or.inl h
      obtain ⟨P13, R13, K13, x13⟩ := Q12.out.1.itemSet HP.out.H hlt (itCells (b i) mf r) (it_len HME.out.1)
      have LL13 := Q12.out.2.keep K13 (by have := HLM.out.2.2; have := HLM.out.2.1; have := HBL.out; have := HGZ.out.1; omega) (fun j hj => Or.inl (x13 j hj))
      generalize (w11.drewN nr).setCells w.heap.size (i * 25) (itCells (b i) mf r) = w13 at *
      obtain ⟨s14, P14, R14, L14, K14, x14⟩ := P13.levelSet HP.out.H hlt R13 (it_len HME.out.1) (l i).v
      have LL14 := LL13.keep K14 (by have := HLM.out.2.2; have := HLM.out.2.1; have := HBL.out; have := HGZ.out.1; omega) (fun j hj => Or.inl (x14 j hj))
      have cv := lk_v (HP.out.lo i hlt) LL13.r
      have cv4 := lk_v (HP.out.lo i hlt) LL14.r
      have Q14 := Lib.hid (And.intro P14 (And.intro R14 L14))
      clear Q12 Q11 P13 R13 K13 x13 LL13 P14 R14 L14 K14 x14 LL14 x12 BT S60 O60 T60 RM SM c0 c1 c5 c6 co hrun
      go_upto_region 18 with fail
      generalize w13.setCell ⟨w.heap.size, i * 25 + 23, none⟩ (.float .f64 (l i).v) = w14 at *
      clear s14 cv
      go_wp2_with fail
      go_at_call 37
      refine (c129 (l i).v w14 (HP.out.lo i hlt).v).mono fun e w15 ⟨he, hw15⟩ => ?_
      subst he hw15
      cases hN2 : isN (l i).v with
      | true =>
        obtain ⟨s15, P15, R15, L15, -, -⟩ := Q14.out.1.levelSet HP.out.H hlt Q14.out.2.1 (it_len HME.out.1) 0
        have PD := Lib.hid (P15.done R15 (by rw [L15]; unfold lvO; rw [hN2]; rfl) HME.out.1 HRR.out.1 HME.out.2 HRR.out.2)
        clear P15 R15 L15 hN2
        go_wp2_with fail
        go_roundw
        case rel => exact ⟨i + 1, _, _, kv', by go_num, by omega, PD⟩
        case measure => simp [intOf]; omega
      | false =>
        have PD := Lib.hid (Q14.out.1.done Q14.out.2.1 (by rw [Q14.out.2.2]; unfold lvO; rw [hN2]; rfl) HME.out.1 HRR.out.1 HME.out.2 HRR.out.2)
        clear hN2
        go_wp2_with fail
        go_roundw
        case rel => exact ⟨i + 1, _, _, kv', by go_num, by omega, PD⟩
        case measure => simp [intOf]; omega
    · have hin : i = n := by omega
      subst hin
      have PS := hP.out.spots (c := i) HP.out.lo HP.out.hn
      obtain ⟨pt, ct, htv, -⟩ := owned_slice hP.out.tp
      have HC := Lib.hid (c38 wr w.heap.size w.heap.size i i (lvO l) (itF i b MS OS) kv (abO b) u6 PS)
      have HTV := Lib.hid htv
      have FIN := Lib.hid (show ∀ w', Keep wr.heap.size (fun k => (∃ j, j < i ∧ (kv j).ownBlock = some k) ∨ u6.ownBlock = some k) wr w' → I i w' ∧ Keep w.heap.size (ex w) w w' from fun w' hk => by
        refine ⟨(HP.out.H.stay i wr w' hP.out.inv (hk.mono (Nat.le_refl _) fun k _ h => ?_)).1, hP.out.kp.trans (hk.mono hP.out.hB fun k hk2 h => ?_)⟩
        · rcases h with ⟨j, hj, h⟩ | h
          · exact ⟨hP.out.xk j k hj h, ((hP.out.ko j hj).lt k h).1⟩
          · exact ⟨hP.out.xt k h, (hP.out.tp.lt k h).1⟩
        · rcases h with ⟨j, hj, h⟩ | h
          · have := ((hP.out.ko j hj).lt k h).1; omega
          · have := (hP.out.tp.lt k h).1; omega)
      have hbw := hP.out.hB
      have HB := Lib.hid hbw
      have HPR := Lib.hid hP.out.pr
      clear PS hP hbw htv
      go_wp2_with fail
      go_at_call 38
      refine HC.out.mono fun e w' ⟨ov, he, ho, hb, hk⟩ => ?_
      subst he
      have HO := Lib.hid ho
      have HK := Lib.hid hk
      clear ho hb hk
      go_wp2
      go_ret
      refine ⟨ov, MS, OS, rfl, HPR.out, ?_, FIN.out w' HK.out⟩
      have := owned_rebase (base' := w.heap.size) HO.out (fun g hg => by have := (HO.out.lt g hg).1; have := HB.out; omega)
      rwa [itF_flat (fun x hx => (mem_whole (fun _ _ _ h => abO_lt h)).1 hx)] at this
end Go.Proofs.Ytedkbjimofiphaa

namespace Go.Proofs.Ytedkbjimofiphaa
open Go.RowKit Fl
end Go.Proofs.Ytedkbjimofiphaa
