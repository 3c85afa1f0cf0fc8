/- The law's row. galleyref20's above and level. A store into a row of the call's own, of one cell each. Region 8 of galleyref20's beneath: is the last one's level greater? -/
import Derived.Test.YtedkbjimofiphaaMgPtI
namespace Go.Proofs.Ytedkbjimofiphaa
open Go.RowKit Fl
theorem infoB : (Try.prog.info? 35).map (fun i => (i.zero, i.size, i.bytes)) = some (some (.agg #[.int .u32 0, .int .u32 0, .int .i64 0, .float .f64 0, .float .f64 0, .float .f64 0, .float .f64 0]), 7, 48) := by kernel_rfl
theorem infoL : (Try.prog.info? 52).map (fun i => (i.zero, i.size, i.bytes)) = some (some (.agg Z54), 54, 432) := by kernel_rfl
structure RS (w0 w : World) (S : Nat → SH) (i : Nat) (bv lv : Value) : Prop where
  ob : w.ownsRow w0.heap.size 35 7 bv i ((List.range i).flatMap fun k => (S k).bx.cells)
  ol : w.ownsRow w0.heap.size 52 54 lv i ((List.range i).flatMap fun k => (lkR S k).cells)
  bl : Below w0.heap.size w0 w
theorem RS.keep {w0 w w' : World} {S : Nat → SH} {i : Nat} {bv lv : Value} {N : Nat} {e : Nat → Prop} (h : RS w0 w S i bv lv) (hk : Keep N e w w') (hN : w.heap.size ≤ N) (he : ∀ k, e k → w.heap.size ≤ k) : RS w0 w' S i bv lv :=
  ⟨owned_at h.ob fun k hk2 hl => hk.block k (by omega) fun h => by have := he k h; omega, owned_at h.ol fun k hk2 hl => hk.block k (by omega) fun h => by have := he k h; omega,
    h.bl.trans (hk.below _ (by have := h.bl.size; omega) fun k h1 h2 => by have := he k h2; have := h.bl.size; omega)⟩
theorem RS.pushB {w0 w w3 : World} {S : Nat → SH} {i : Nat} {bv lv v3 : Value} {o : Obj} {xs : List Value} (h : RS w0 w S i bv lv) (hx : xs = (S i).bx.cells)
    (hown : w3.ownsRow w0.heap.size 35 7 v3 (i + 1) (((List.range i).flatMap fun k => (S k).bx.cells) ++ xs)) (hg : (w.alloc o).grownBy w3 bv.ownBlock) :
    w3.ownsRow w0.heap.size 35 7 v3 (i + 1) ((List.range (i + 1)).flatMap fun k => (S k).bx.cells) ∧ w3.ownsRow w0.heap.size 52 54 lv i ((List.range i).flatMap fun k => (lkR S k).cells) ∧ Below w0.heap.size w0 w3 ∧ Keep w.heap.size (fun k => bv.ownBlock = some k) w w3 := by
  have K : Keep w.heap.size (fun k => bv.ownBlock = some k) w w3 := (Keep.of_below ((Below.refl w.heap.size w).alloc (Nat.le_refl _) o)).trans (Keep.of_grown2 hg (by simp) fun k hk => hk)
  refine ⟨?_, owned_at h.ol fun k hk hl => K.block k hl fun h2 => owned_apart h.ob h.ol (by decide) k h2 hk, h.bl.trans (K.below _ h.bl.size fun k h1 h2 => by have := (h.ob.lt k h2).1; omega), K⟩
  subst hx
  rw [List.range_succ, List.flatMap_append]
  simpa using hown
theorem RS.pushL {w0 w w3 : World} {S : Nat → SH} {i : Nat} {bv lv v3 : Value} {o : Obj} {xs : List Value} (hb : w.ownsRow w0.heap.size 35 7 bv (i + 1) ((List.range (i + 1)).flatMap fun k => (S k).bx.cells)) (hl : w.ownsRow w0.heap.size 52 54 lv i ((List.range i).flatMap fun k => (lkR S k).cells)) (hB : Below w0.heap.size w0 w)
    (hx : xs = (lkR S i).cells) (hown : w3.ownsRow w0.heap.size 52 54 v3 (i + 1) (((List.range i).flatMap fun k => (lkR S k).cells) ++ xs)) (hg : (w.alloc o).grownBy w3 lv.ownBlock) : RS w0 w3 S (i + 1) bv v3 := by
  have K : Keep w.heap.size (fun k => lv.ownBlock = some k) w w3 := (Keep.of_below ((Below.refl w.heap.size w).alloc (Nat.le_refl _) o)).trans (Keep.of_grown2 hg (by simp) fun k hk => hk)
  refine ⟨owned_at hb fun k hk hl2 => K.block k hl2 fun h2 => owned_apart hb hl (by decide) k hk h2, ?_, hB.trans (K.below _ hB.size fun k h1 h2 => by have := (hl.lt k h2).1; omega)⟩
  subst hx
  rw [List.range_succ, List.flatMap_append]
  simpa using hown
theorem owned_some {base s n : Nat} {e : TypeId} {p : Option Addr} {c : Nat} {xs : List Value} {w : World} (h : w.ownsRow base e s (.slice p n c) n xs) (hn : 0 < n) : ∃ g, p = some ⟨g, 0, none⟩ ∧ base ≤ g ∧ g < w.heap.size := by
  rcases h.2 with ⟨h1, h2⟩ | ⟨g, cap, cur, h1, h2, h3, h4⟩
  · omega
  · injection h1 with h1 h5 h6
    subst h1 h6
    exact ⟨g, rfl, (h.lt g rfl).1, (h.lt g rfl).2⟩
structure IL (w2 w : World) (N : Nat) (x : LK) : Prop where
  k : Keep w2.heap.size (fun k => k = N) w2 w
  r : w.rangeAt N 0 x.cells
  t : w.there N 0 54
theorem IL.store {w2 w : World} {N : Nat} {x y : LK} (h : IL w2 w N x) (hy : y.cells.length = 54) : IL w2 (w.setCells N 0 y.cells) N y :=
  have hb := below_setCells (Below.refl N w) (Nat.le_refl _) 0 y.cells
  ⟨⟨hb.os.trans h.k.os, hb.tape.trans h.k.tape, hb.output.trans h.k.output, by rw [size_setCells]; exact h.k.size, fun k h1 h2 => (World.heap_setCells_other w N 0 _ (by have := h.k.size; omega) h2).trans (h.k.block k h1 h2)⟩,
    World.rangeAt_setCells_same w N 0 y.cells (by rw [hy]; exact h.t), World.there_setCells h.t _ _ _⟩
theorem IL.below {w2 w w' : World} {N : Nat} {x : LK} (h : IL w2 w N x) (hN : N < w.heap.size) (hb : Below w.heap.size w w') : IL w2 w' N x :=
  ⟨h.k.trans (Keep.of_below (hb.mono h.k.size)), range_below h.r hb hN, there_below h.t hb hN⟩
set_option maxRecDepth 100000 in
set_option maxHeartbeats 2000000 in
theorem c7 (w : World) (gs os n cs : Nat) (S : Nat → SH) (hS : ∀ i, i < n → (S i).OK) (hr : ∀ i, i < n → w.rangeAt gs (os + i * 24) (S i).cells) (lg : gs < w.heap.size) (hn : n ≤ 1048576) :
    Calls Try.prog 7 #[.slice (some ⟨gs, os, none⟩) n cs] w fun e w' => ∃ bv lv, e = .returned (.tuple #[bv, lv]) ∧ RS w w' S n bv lv := by
  have HR := Lib.hid (And.intro hS (And.intro hr lg))
  have H0 := Lib.hid (show RS w w S 0 (.slice none 0 0) (.slice none 0 0) from ⟨World.ownsRow_nil .., World.ownsRow_nil .., Below.refl _ _⟩)
  obtain ⟨iB, b1, b2, b3, b4⟩ := info_parts infoB
  obtain ⟨iL, l1, l2, l3, l4⟩ := info_parts infoL
  have IB := Lib.hid (And.intro b1 (And.intro b2 (And.intro b3 b4)))
  have ILn := Lib.hid (And.intro l1 (And.intro l2 (And.intro l3 l4)))
  clear hS hr lg b1 b2 b3 b4 l1 l2 l3 l4
  go_enter Try.func7, Try.ntmps7
  go_wp2_with fail
  go_loopw [4, 5, 6] (fun bv lv ii wx => ∃ i : Nat, ii = .int .i64 (i : Int) ∧ i ≤ n ∧ Hid (RS w wx S i bv lv)) (fun _ _ ii _ => n - (intOf ii).toNat)
  case atStart => exact ⟨0, rfl, Nat.zero_le _, H0⟩
  case round =>
    obtain ⟨i, rfl, hin, hI⟩ := hrel
    obtain ⟨pb, cb, rfl, -⟩ := owned_slice hI.out.ob
    obtain ⟨pl, cl, rfl, -⟩ := owned_slice hI.out.ol
    by_cases hlt : i < n
    · have hi2 : (i : Int) < (n : Int) := by omega
      have di : decide ((i : Int) < (n : Int)) = true := decide_eq_true hi2
      have RI := Lib.hid (range_below (HR.out.2.1 i hlt) hI.out.bl HR.out.2.2)
      have S1 := Lib.hid (show (Try.prog.info? 56).map (·.size) = some (S i).cells.length by rw [sh_len (HR.out.1 i hlt)]; exact sz56)
      have CL := Lib.hid (fun wx => c24L wx (S i) (HR.out.1 i hlt))
      go_upto_region 6 with fail
      go_wp2_with (refine wpList_load_mid rfl 56 (.tmp 17) rfl gs (os + i * 24) rfl (S i).cells _ RI.out Try.underlying56 rfl S1.out ?_)
      go_at_call 24
      refine (CL.out wr).mono fun e w1 ⟨he, hb1⟩ => ?_
      subst he
      have okS := HR.out.1 i hlt
      obtain ⟨n1, n2, n3, n4⟩ := new_row w1 Z54 52 (S i).lk.cells (by rw [lk_len (lk_OK okS)]; rfl)
      have T1 := Lib.hid (show (w1.alloc (.cells Z54 52)).there w1.heap.size 0 (S i).lk.cells.toArray.size by
        have e : (S i).lk.cells.toArray.size = 54 := by rw [List.size_toArray]; exact lk_len (lk_OK okS)
        rw [e]; exact there_new w1 Z54 52 54 rfl)
      have SZ := Lib.hid (lk_sz (lk_OK okS))
      have OL := Lib.hid (all_oneCell_toArray (lk_one (S i).lk))
      have RS1 := hI.out.keep (Keep.of_below (ex := fun _ => False) hb1) (Nat.le_refl _) (fun _ h => False.elim h)
      have RS2 := Lib.hid (RS1.keep (Keep.of_below (ex := fun _ => False) n1) (Nat.le_refl _) (fun _ h => False.elim h))
      have LN := Lib.hid (And.intro hb1.size (RS1.bl.size))
      have N2 := Lib.hid (And.intro n2 (And.intro (show ((w1.alloc (.cells Z54 52)).setCells w1.heap.size 0 (S i).lk.cells).there w1.heap.size 0 54 by rwa [lk_len (lk_OK okS)] at n3) n4))
      have B12 := Lib.hid (And.intro n1 RS1)
      clear n1 n2 n3 n4 hb1 okS RS1 CL
      go_upto_region 7 with (refine wpList_store_mid rfl 52 (.tmp 7) (.tmp 19) rfl w1.heap.size 0 (S i).lk.cells.toArray rfl rfl T1.out SZ.out OL.out ?_)
      obtain ⟨w2, hw2⟩ : ∃ x, x = (w1.alloc (.cells Z54 52)).setCells w1.heap.size 0 (S i).lk.cells := ⟨_, rfl⟩
      rw [← hw2] at RS2 N2 B12
      show Code.wp _ _ _ _ ((w1.alloc (.cells Z54 52)).setCells w1.heap.size 0 (S i).lk.cells)
      rw [← hw2]
      clear hw2 T1
      obtain ⟨N, hN⟩ : ∃ N, N = w1.heap.size := ⟨_, rfl⟩
      rw [← hN] at N2 LN
      rw [← hN]
      have RSA := Lib.hid (show ∀ wy x, IL w2 wy N x → RS w wy S i (.slice pb i cb) (.slice pl i cl) from fun wy x h =>
        B12.out.2.keep ((Keep.of_below (ex := fun _ => False) B12.out.1).trans (h.k.mono (by have := B12.out.1.size; omega) (fun k h1 h2 => by omega))) (Nat.le_refl _) (fun _ h => False.elim h))
      have NB := Lib.hid (show ∀ g, (Value.slice pb i cb).ownBlock = some g → g < N from fun g hg => by have := (B12.out.2.ob.lt g hg).2; omega)
      clear hN B12
      have L0 := Lib.hid (show ∃ x, Rk S i i x ∧ IL w2 w2 N x from ⟨_, Rk.start S i, Keep.refl _ _ _, N2.out.1, N2.out.2.1⟩)
      go_wp2_with fail
      go_loopw [8] (fun kk wy => ∃ p : Nat, kk = .int .i64 ((p : Int) - 1) ∧ p ≤ i ∧ Hid (∃ x, Rk S i p x ∧ IL w2 wy N x)) (fun kk _ => (intOf kk + 1).toNat)
      case atStart => exact ⟨i, rfl, Nat.le_refl _, L0⟩
      case round =>
        obtain ⟨p, rfl, hpi, hL⟩ := hrel
        cases p with
        | zero =>
          have e0 : ((0 : Nat) : Int) - 1 = -1 := rfl
          rw [e0]
          obtain ⟨x, hx, hil⟩ := hL.out
          obtain rfl := hx.done
          have okL := lkR_OK HR.out.1 hlt
          have RS3 := Lib.hid (RSA.out wr _ hil)
          have X3 := Lib.hid hil
          have RI3 := Lib.hid (range_below (HR.out.2.1 i hlt) RS3.out.bl HR.out.2.2)
          have CB := Lib.hid (fun wx => c25B wx (S i) (HR.out.1 i hlt))
          clear hx hil hL L0 RI SZ OL
          go_upto_region 12 with fail
          go_wp2_with (refine wpList_load_mid rfl 56 (.tmp 45) rfl gs (os + i * 24) rfl (S i).cells _ RI3.out Try.underlying56 rfl S1.out ?_)
          go_at_call 25
          refine (CB.out wr).mono fun e w5 ⟨he, hb5⟩ => ?_
          subst he
          have RS5 := Lib.hid (RS3.out.keep (Keep.of_below (ex := fun _ => False) hb5) (Nat.le_refl _) (fun _ h => False.elim h))
          have X5 := Lib.hid (And.intro (range_below X3.out.r hb5 (by have := N2.out.2.2; have := X3.out.k.size; have := LN.out; omega)) (And.intro hb5.size (show N < w5.heap.size by have := N2.out.2.2; have := X3.out.k.size; have := hb5.size; have := LN.out; omega)))
          have OA := Lib.hid (RS5.out.ob.alloc (.cells ([Value.agg (S i).bx.cells.toArray].flatMap fun v => v.cells.toList).toArray 35))
          have NC := Lib.hid (new_row2 w5 (S i).bx.cells 35)
          have BO := Lib.hid (show ∀ u ∈ (S i).bx.cells, u.oneCell' = true from fun u hu => by
            have := box_one (S i).bx; exact Array.all_eq_true_iff_forall_mem.1 this u (by simpa using hu))
          clear hb5 CB
          go_wp2_with (first
            | (refine Go.Great.wpList_buildRows rfl 24 35 #[(0, .tmp 47)] 7 [.agg (S i).bx.cells.toArray] rfl (fun _ => 47) w5.heap.size rfl (some 48) rfl Try.underlying24 (by rw [IB.out.1]; exact congrArg some IB.out.2.2.1) (by rw [IB.out.1, Option.bind_some, IB.out.2.1]; rfl) (by decide) (Nat.succ_pos 0) (show 1 * 7 ≤ 2 ^ 24 by decide) rfl (fun v hv => by rw [List.mem_singleton.1 hv]; rfl) (fun k hk => by match k, hk with | 0, _ => rfl) ?_)
            | (at_builtin; refine wpList_append_strong rfl _ _ 24 rfl w.heap.size 35 iB (.agg #[.int .u32 0, .int .u32 0, .int .i64 0, .float .f64 0, .float .f64 0, .float .f64 0, .float .f64 0]) 7 48 Try.underlying24 IB.out.1 IB.out.2.1 IB.out.2.2.1 IB.out.2.2.2 rfl (by decide) _ _ _ rfl OA.out ⟨w5.heap.size, 0, none⟩ 1 1 (S i).bx.cells rfl ?c0 NC.out BO.out ?c3 ?c4 ?c5 (by decide) ?_))
          case c0 => rfl
          case c3 => unfold maxLen; omega
          case c4 => omega
          case c5 => have := RS5.out.bl.size; simp; omega
          intro v6 w6 hown hgrow hblk
          obtain ⟨o6, l6, b6, k6⟩ := RS5.out.pushB rfl hown (by simpa using hgrow)
          have X6 := Lib.hid (range_keep X5.out.1 k6 X5.out.2.2 (fun h => by have := NB.out N h; omega))
          have R6 := Lib.hid (And.intro o6 (And.intro l6 b6))
          obtain ⟨pv, cv, rfl, -⟩ := owned_slice o6
          have OA6 := Lib.hid (l6.alloc (.cells ([Value.agg (lkR S i).cells.toArray].flatMap fun v => v.cells.toList).toArray 52))
          have NC6 := Lib.hid (new_row2 w6 (lkR S i).cells 52)
          have SL6 := Lib.hid (show (Try.prog.info? 52).map (·.size) = some (lkR S i).cells.length by have := lk_sz okL; rwa [List.size_toArray] at this)
          have LL6 := Lib.hid (lk_len okL)
          have V6 := Lib.hid (show ∀ v ∈ [Value.agg (lkR S i).cells.toArray], v.cells.size = 54 from fun v hv => by rw [List.mem_singleton.1 hv]; show (lkR S i).cells.toArray.size = 54; rw [List.size_toArray]; exact lk_len okL)
          have ZL := Lib.hid (show ((Try.prog.info? 52).map (·.size) = some 54) ∧ (((Try.prog.info? 52).bind (·.zero)).isSome = true) by rw [ILn.out.1]; exact ⟨congrArg some ILn.out.2.2.1, by rw [Option.bind_some, ILn.out.2.1]; rfl⟩)
          have Z54s := Lib.hid (show (Value.agg Z54).cells.size = 54 from rfl)
          clear o6 l6 b6 k6 hown hgrow hblk OA NC BO RI3 X5
          go_upto_region 13 with fail
          go_wp2_with (first
            | (refine wpList_load_mid rfl 52 (.tmp 7) rfl N 0 rfl (lkR S i).cells _ X6.out Try.underlying52 rfl SL6.out ?_)
            | (refine Go.Great.wpList_buildRows rfl 25 52 #[(0, .tmp 51)] 54 [.agg (lkR S i).cells.toArray] rfl (fun _ => 51) w6.heap.size rfl (some 52) rfl Try.underlying25 ZL.out.1 ZL.out.2 (by decide) (Nat.succ_pos 0) (show 1 * 54 ≤ 2 ^ 24 by decide) rfl V6.out (fun k hk => by match k, hk with | 0, _ => rfl) ?_)
            | (at_builtin; refine wpList_append_strong rfl _ _ 25 rfl w.heap.size 52 iL (.agg Z54) 54 432 Try.underlying25 ILn.out.1 ILn.out.2.1 ILn.out.2.2.1 ILn.out.2.2.2 Z54s.out (by decide) _ _ _ rfl OA6.out ⟨w6.heap.size, 0, none⟩ 1 1 (lkR S i).cells rfl ?e0 NC6.out (lk_one _) ?e3 ?e4 ?e5 (by decide) ?_))
          case e0 => rw [LL6.out]
          case e3 => unfold maxLen; omega
          case e4 => omega
          case e5 => have := R6.out.2.2.size; simp; omega
          intro v7 w7 hown hgrow hblk
          have RS7 := Lib.hid (RS.pushL R6.out.1 R6.out.2.1 R6.out.2.2 rfl hown (by simpa using hgrow))
          obtain ⟨pw, cw, rfl, -⟩ := owned_slice RS7.out.ol
          clear hown hgrow hblk OA6 NC6 X6 R6
          go_wp2_with fail
          go_roundw
          case rel => exact ⟨i + 1, by simp, by omega, RS7⟩
          case measure => show n - (i + 1) < n - i; omega
        | succ q =>
          have eq1 : ((q + 1 : Nat) : Int) - 1 = (q : Int) := by omega
          rw [eq1]
          obtain ⟨g, rfl, g1, g2⟩ := owned_some RS2.out.ob (by omega)
          obtain ⟨gl, rfl, g3, g4⟩ := owned_some RS2.out.ol (by omega)
          have dq : decide ((0 : Int) ≤ (q : Int)) = true := decide_eq_true (by omega)
          go_upto_region 10 with fail
          obtain ⟨x, hx, hil⟩ := hL.out
          have RS3 := RSA.out wr _ hil
          have hNw : N < wr.heap.size := by have := N2.out.2.2; have := hil.k.size; have := LN.out; omega
          have HX := Lib.hid (And.intro hx (And.intro hil (And.intro RS3 hNw)))
          refine reg7 wr gs os n cs g i cb i q (S i) ((S q).bx) _ _ _ _ _ _ _ _ _ _ _ _ _ _ _ _ _ _ _ _ _ _ _ _ _ _ _ _ _ _ _ _ _ _ _ _ _ _ _ _ _ _ _ _ _ _ _ _ _ _ _ _ (HR.out.1 i hlt) (range_below (HR.out.2.1 i hlt) RS3.bl HR.out.2.2) (owned_rec (f := fun k => (S k).bx.cells) (fun k hk => rfl) RS3.ob (by omega)) hlt (by omega) (Nat.lt_of_lt_of_le HR.out.2.2 RS3.bl.size) (RS3.ob.lt g rfl).2 (fun v26 v27 v28 v29 v30 v31 v32 v33 v34 v35 v36 w4 hB => ?_)
          have IL4 := Lib.hid (hil.below hNw hB)
          obtain ⟨t, ht⟩ : ∃ t, t = sm S q i := ⟨_, rfl⟩
          have HT := Lib.hid ht
          rw [show (((S q).bx.sl : Int) == ((S i).bx.sl : Int) && ((S q).bx.gn : Int) == ((S i).bx.gn : Int)) = t from ht.symm]
          have hq2 : (q : Int) < (i : Int) := by omega
          have dq2 : decide ((q : Int) < (i : Int)) = true := decide_eq_true hq2
          clear ht hx hil RS3 hL SZ OL hB
          cases t with
          | true =>
            have RS4 := RSA.out w4 _ IL4.out
            have okq := lkR_OK (i := q) HR.out.1 (by omega)
            have RL := Lib.hid (owned_rec (f := fun k => (lkR S k).cells) (fun k hk => lk_len (lkR_OK (i := k) HR.out.1 (by omega))) RS4.ol (k := q) (by omega))
            have SQ := Lib.hid (show (Try.prog.info? 52).map (·.size) = some (lkR S q).cells.length by have := lk_sz okq; rwa [List.size_toArray] at this)
            have SQA := Lib.hid (lk_sz okq)
            have OQ := Lib.hid (all_oneCell_toArray (lk_one (lkR S q)))
            have TQ := Lib.hid (show w4.there N 0 (lkR S q).cells.toArray.size by
              have e : (lkR S q).cells.toArray.size = 54 := by rw [List.size_toArray]; exact lk_len okq
              rw [e]; exact IL4.out.t)
            have IL5 := Lib.hid (show ∃ x, Rk S i q x ∧ IL w2 (w4.setCells N 0 (lkR S q).cells) N x from ⟨_, Rk.hit (by omega) HT.out.symm, IL4.out.store (lk_len okq)⟩)
            clear RS4 okq
            go_wp2_with (first
              | (refine wpList_load_mid rfl 52 (.tmp 40) rfl gl (q * 54) rfl (lkR S q).cells _ RL.out Try.underlying52 rfl SQ.out ?_)
              | (refine wpList_store_mid rfl 52 (.tmp 7) (.tmp 41) rfl N 0 (lkR S q).cells.toArray rfl rfl TQ.out SQA.out OQ.out ?_))
            go_roundw
            case rel => exact ⟨q, rfl, by omega, IL5⟩
            case measure => show ((q : Int) - 1 + 1).toNat < ((q : Int) + 1).toNat; omega
          | false =>
            have IL5 := Lib.hid (show ∃ x, Rk S i q x ∧ IL w2 w4 N x from ⟨_, HX.out.1.miss HT.out.symm, IL4.out⟩)
            go_wp2_with fail
            go_roundw
            case rel => exact ⟨q, rfl, by omega, IL5⟩
            case measure => show ((q : Int) - 1 + 1).toNat < ((q : Int) + 1).toNat; omega
    · have e : i = n := by omega
      subst e
      go_wp2_with fail
      go_ret2
      exact ⟨_, _, rfl, hI.out⟩
end Go.Proofs.Ytedkbjimofiphaa

namespace Go.Proofs.Ytedkbjimofiphaa
open Go.RowKit Fl
def abV (b : Nat → BX) (i : Nat) : Int := match abO b i with
  | some k => (k : Int)
  | none => -1
set_option maxRecDepth 100000 in
set_option maxHeartbeats 1000000 in
theorem c27r (w : World) (gb n c i : Nat) (b : Nat → BX) (hr : w.rangeAt gb (i * 7) (b i).cells) (hi : i < n) :
    Calls Try.prog 27 #[.slice (some ⟨gb, 0, none⟩) n c, .int .i64 (i : Int)] w fun e w' => e = .returned (.int .i64 (abV b i)) ∧ w' = w := by
  have ca : w.cell? ⟨gb, i * 7 + 2, none⟩ = some (.int .i64 (b i).ab) := hr 2 _ rfl
  have hi2 : (i : Int) < (n : Int) := by omega
  have di : decide ((i : Int) < (n : Int)) = true := decide_eq_true hi2
  clear hr
  have HV := Lib.hid (show (0 ≤ (b i).ab → (b i).ab < (i : Int) → abV b i = (b i).ab) ∧ (¬ (0 ≤ (b i).ab ∧ (b i).ab < (i : Int)) → abV b i = -1) from by
    unfold abV abO
    refine ⟨fun h1 h2 => ?_, fun h => ?_⟩
    · rw [if_pos ⟨h1, h2⟩]; show ((b i).ab.toNat : Int) = (b i).ab; omega
    · rw [if_neg h])
  by_cases h0 : 0 ≤ (b i).ab
  · have d0 : decide (0 ≤ (b i).ab) = true := decide_eq_true h0
    by_cases h1 : (b i).ab < (i : Int)
    · have d1 : decide ((b i).ab < (i : Int)) = true := decide_eq_true h1
      go_enter Try.func27, Try.ntmps27
      go_upto_region 1 with fail
      go_wp2
      go_ret
      exact ⟨by rw [HV.out.1 (by omega) (by omega)]; rfl, rfl⟩
    · have d1 : decide ((b i).ab < (i : Int)) = false := decide_eq_false h1
      go_enter Try.func27, Try.ntmps27
      go_wp2
      go_ret
      exact ⟨by rw [HV.out.2 (by omega)]; rfl, rfl⟩
  · have d0 : decide (0 ≤ (b i).ab) = false := decide_eq_false h0
    go_enter Try.func27, Try.ntmps27
    go_wp2
    go_ret
    exact ⟨by rw [HV.out.2 (by omega)]; rfl, rfl⟩
/-- a level: no number and noughts go to 0 -/
def LV (l : LK) (r : Nat) : Prop := U r ∧ pl r ≠ 9223372036854775807 ∧ zk (pl r) = zk (pl (if isN l.v then 0 else l.v))
set_option maxRecDepth 100000 in
set_option maxHeartbeats 1000000 in
theorem c53 (w : World) (l : LK) (hl : l.OK) : Calls Try.prog 53 #[.agg l.cells.toArray] w fun e w' => ∃ r, e = .returned (.float .f64 r) ∧ LV l r ∧ Below w.heap.size w w' := by
  have R0 := range_new w l.cells 52
  have cv := lk_v hl R0
  have B1 := Lib.hid (show Below w.heap.size w (w.alloc (.cells l.cells.toArray 52)) from (Below.refl _ _).alloc (Nat.le_refl _) _)
  have h2 := neq_self l.v hl.v
  have h3 := f_eq l.v 0 hl.v (show U 0 by unfold U; decide)
  have en := isN_iff_pl l.v
  have Z : pl 0 = 0 := by decide
  have L0 : (isN l.v = true ∨ feqP (pl l.v) (pl 0) = true) → LV l 0 := fun h => ⟨by unfold U; decide, by decide, by
    rcases h with h | h
    · rw [h]; rfl
    · unfold feqP at h
      simp only [Bool.and_eq_true, decide_eq_true_eq] at h
      rw [if_neg (by rw [en]; simp [h.1.1])]
      exact h.2.symm⟩
  have L1 : isN l.v = false → LV l l.v := fun h => ⟨hl.v, by rw [en] at h; exact of_decide_eq_false h, by rw [if_neg (by rw [h]; decide)]⟩
  have HL := Lib.hid (And.intro L0 L1)
  clear R0 L0 L1 en Z
  generalize feqP (pl l.v) (pl 0) = t at *
  cases hN : isN l.v with
  | true =>
    rw [hN] at h2
    have HN := Lib.hid hN
    clear h3 hN
    go_enter Try.func53, Try.ntmps53
    go_wp2
    go_ret
    exact ⟨0, rfl, HL.out.1 (Or.inl HN.out), B1.out⟩
  | false =>
    rw [hN] at h2
    have HN := Lib.hid hN
    clear hN
    cases t with
    | true =>
      go_enter Try.func53, Try.ntmps53
      go_wp2
      go_ret
      exact ⟨0, rfl, HL.out.1 (Or.inr (by simp)), B1.out⟩
    | false =>
      go_enter Try.func53, Try.ntmps53
      go_wp2
      go_ret
      exact ⟨l.v, rfl, HL.out.2 HN.out, B1.out⟩
end Go.Proofs.Ytedkbjimofiphaa

namespace Go.Proofs.Ytedkbjimofiphaa
open Go.RowKit Fl
theorem owned_put {w : World} {base n g c j : Nat} {e : TypeId} {xs : List Value} (h : w.ownsRow base e 1 (.slice (some ⟨g, 0, none⟩) n c) n xs) (hj : j < n) (v : Value) :
    (w.setCell ⟨g, j, none⟩ v).ownsRow base e 1 (.slice (some ⟨g, 0, none⟩) n c) n (xs.set j v) := by
  refine ⟨by rw [List.length_set]; exact h.1, ?_⟩
  rcases h.2 with ⟨h1, -⟩ | ⟨g', cap, cur, h1, h2, h3, h4, h5, h6, h7⟩
  · cases h1
  · injection h1 with a1 a2 a3
    injection a1 with a1
    injection a1 with a1
    subst a1 a3
    refine Or.inr ⟨g, c, cur.setIfInBounds j v, rfl, h2, ?_, h4, h5, by rw [Array.size_setIfInBounds]; exact h6, ?_⟩
    · unfold World.setCell
      simp [Array.getElem?_modify, h3]
    · rw [Array.toList_setIfInBounds, List.take_set, h7]
/-- a row of indices -/
def OI (w : World) (base : Nat) (v : Value) (d : List Nat) : Prop := w.ownsRow base 3 1 v d.length (d.map iv)
theorem OI.cell {w : World} {base g c : Nat} {d : List Nat} (h : OI w base (.slice (some ⟨g, 0, none⟩) d.length c) d) {j x : Nat} (hj : d[j]? = some x) : w.cell? ⟨g, j, none⟩ = some (.int .i64 (x : Int)) ∧ w.frozen? ⟨g, j, none⟩ = false := by
  have hl := (List.getElem?_eq_some_iff.1 hj).1
  refine ⟨?_, h.frozenAt j⟩
  rw [World.ownsRow.cellAt h j (by omega), List.getElem?_map, hj]; rfl
theorem OI.put {w : World} {base g c : Nat} {d : List Nat} (h : OI w base (.slice (some ⟨g, 0, none⟩) d.length c) d) {j : Nat} (hj : j < d.length) (x : Nat) : OI (w.setCell ⟨g, j, none⟩ (.int .i64 (x : Int))) base (.slice (some ⟨g, 0, none⟩) d.length c) (d.set j x) := by
  have := owned_put h hj (iv x)
  unfold OI
  rw [List.length_set, List.map_set]
  exact this
end Go.Proofs.Ytedkbjimofiphaa

namespace Go.Proofs.Ytedkbjimofiphaa
open Go.RowKit Fl
noncomputable def tr30 (n : Nat) : Code := (Try.f30.body.bind (findRegion n)).getD .skip
theorem LK.cells_v {l l' : LK} (h : l.OK) (h' : l'.OK) (e : l.cells = l'.cells) : l.v = l'.v := by
  have f : ∀ l : LK, l.OK → l.cells[53]? = some (.float .f64 l.v) := fun l hl => by
    unfold LK.cells
    rw [List.getElem?_append_right (by show 37 ≤ 53; omega), show 53 - (lkPre l.o).length = 16 by rfl, List.getElem?_append_right (by rw [List.length_map, hl.m.1]; omega), List.length_map, hl.m.1]
    rfl
  have a := f l h
  rw [e, f l' h'] at a
  injection a with a
  injection a with _ a
  exact a.symm
def GLv (_ : FuncId) (args : Array Value) (v : Value) : Prop := ∃ r, v = .float .f64 r ∧ ∀ l : LK, l.OK → args = #[.agg l.cells.toArray] → LV l r
theorem GLv.of {l : LK} (hl : l.OK) {r : Nat} (h : LV l r) : GLv 53 #[.agg l.cells.toArray] (.float .f64 r) := ⟨r, rfl, fun l' hl' e => by
  have e1 : l.cells = l'.cells := by
    have := congrArg Array.toList e
    simpa using this
  have ev := LK.cells_v hl hl' e1
  exact ⟨h.1, h.2.1, by rw [← ev]; exact h.2.2⟩⟩
theorem wrap_small (q : Nat) (h : q ≤ 1048576) : IntKind.i64.wrap (q : Int) = (q : Int) := by rw [IntKind.wrap_i64]; omega
theorem LV.gt {l l' : LK} {r r' : Nat} (h : LV l r) (h' : LV l' r') : (FloatKind.f64.format.order r r' == some .gt) = decide (zk (pl (if isN l'.v then 0 else l'.v)) < zk (pl (if isN l.v then 0 else l.v))) := by
  rw [(order_lt ⟨h.1, h.2.1⟩ ⟨h'.1, h'.2.1⟩).2, h.2.2, h'.2.2]
set_option maxRecDepth 100000 in
set_option maxHeartbeats 2000000 in
theorem reg8 {Q : Exit → Act → World → Prop} (w : World) (gl n cl g m c i q y : Nat) (ly li : LK) (u0 u2 u3 u4 u5 u6 u7 u8 u12 u13 u14 u15 u16 u17 u18 u19 u20 u21 u22 u23 u24 u25 u26 u27 u28 u29 u30 u31 u32 u33 u34 u35 u36 u37 u38 u39 u40 u41 u42 u43 u44 u45 u46 u47 u48 u49 u50 u51 u52 u53 u54 u55 u56 u57 u58 u59 u60 u61 u62 u63 u64 u65 u66 u67 u68 u69 u70 u71 u72 u73 u74 u75 u76 u77 u78 u79 u80 u81 u82 u83 u84 u85 u86 u87 u88 u89 u90 u91 u92 : Value) (h1 : ly.OK) (h2 : li.OK) (hy : w.rangeAt gl (y * 54) ly.cells) (hi : w.rangeAt gl (i * 54) li.cells) (hc : w.cell? ⟨g, q, none⟩ = some (.int .i64 (y : Int))) (by_ : y < n) (bi : i < n) (bq : q < m) (bm : m ≤ 1048576) (lg : gl < w.heap.size) (lr : g < w.heap.size)
    (hfin : ∀ (v33 v34 v35 v36 v37 v38 v39 v40 v41 v42 v43 v44 v45 v46 v47 v48 v49 v50 : Value) (w' : World), Below w.heap.size w w' → Q .normal ⟨List.toArray (u0 :: .slice (some ⟨gl, 0, none⟩) n cl :: u2 :: u3 :: u4 :: u5 :: u6 :: u7 :: u8 :: .slice (some ⟨g, 0, none⟩) m c :: .int .i64 (i : Int) :: .int .i64 ((q : Int) + 1) :: u12 :: u13 :: u14 :: u15 :: u16 :: u17 :: u18 :: u19 :: u20 :: u21 :: u22 :: u23 :: u24 :: u25 :: u26 :: u27 :: u28 :: u29 :: u30 :: u31 :: u32 :: v33 :: v34 :: v35 :: v36 :: v37 :: v38 :: v39 :: v40 :: v41 :: v42 :: v43 :: v44 :: v45 :: v46 :: v47 :: v48 :: v49 :: v50 :: .bool (decide (zk (pl (if isN li.v then 0 else li.v)) < zk (pl (if isN ly.v then 0 else ly.v)))) :: u52 :: u53 :: u54 :: u55 :: u56 :: u57 :: u58 :: u59 :: u60 :: u61 :: u62 :: u63 :: u64 :: u65 :: u66 :: u67 :: u68 :: u69 :: u70 :: u71 :: u72 :: u73 :: u74 :: u75 :: u76 :: u77 :: u78 :: u79 :: u80 :: u81 :: u82 :: u83 :: u84 :: u85 :: u86 :: u87 :: u88 :: u89 :: u90 :: u91 :: u92 :: []), []⟩ w') : Code.wp Try.prog (tr30 8) Q ⟨List.toArray (u0 :: .slice (some ⟨gl, 0, none⟩) n cl :: u2 :: u3 :: u4 :: u5 :: u6 :: u7 :: u8 :: .slice (some ⟨g, 0, none⟩) m c :: .int .i64 (i : Int) :: .int .i64 ((q : Int) + 1) :: u12 :: u13 :: u14 :: u15 :: u16 :: u17 :: u18 :: u19 :: u20 :: u21 :: u22 :: u23 :: u24 :: u25 :: u26 :: u27 :: u28 :: u29 :: u30 :: u31 :: u32 :: u33 :: u34 :: u35 :: u36 :: u37 :: u38 :: u39 :: u40 :: u41 :: u42 :: u43 :: u44 :: u45 :: u46 :: u47 :: u48 :: u49 :: u50 :: u51 :: u52 :: u53 :: u54 :: u55 :: u56 :: u57 :: u58 :: u59 :: u60 :: u61 :: u62 :: u63 :: u64 :: u65 :: u66 :: u67 :: u68 :: u69 :: u70 :: u71 :: u72 :: u73 :: u74 :: u75 :: u76 :: u77 :: u78 :: u79 :: u80 :: u81 :: u82 :: u83 :: u84 :: u85 :: u86 :: u87 :: u88 :: u89 :: u90 :: u91 :: u92 :: []), []⟩ w := by
  have HF := Lib.hid hfin
  have R1 := Lib.hid (show ∀ w', Below w.heap.size w w' → w'.rangeAt gl (y * 54) ly.cells from fun w' h => range_below hy h lg)
  have R2 := Lib.hid (show ∀ w', Below w.heap.size w w' → w'.rangeAt gl (i * 54) li.cells from fun w' h => range_below hi h lg)
  have CC := Lib.hid (show ∀ w', Below w.heap.size w w' → w'.cell? ⟨g, q, none⟩ = some (.int .i64 (y : Int)) from fun w' h => (h.cell (p := ⟨g, q, none⟩) lr).trans hc)
  have S1 := Lib.hid (show (Try.prog.info? 52).map (·.size) = some ly.cells.length by have := lk_sz h1; rwa [List.size_toArray] at this)
  have S2 := Lib.hid (show (Try.prog.info? 52).map (·.size) = some li.cells.length by have := lk_sz h2; rwa [List.size_toArray] at this)
  have HO := Lib.hid (And.intro h1 h2)
  have bi2 : (i : Int) < (n : Int) := by omega
  have by2 : (y : Int) < (n : Int) := by omega
  have bq2 : (q : Int) < (m : Int) := by omega
  clear hfin hy hi hc lg lr h1 h2
  conv => arg 2; whnf
  refine wp_region_rel 19 (fun w' => Below w.heap.size w w') GLv (by kernel_rfl) (by kernel_rfl) ((Below.refl _ _).drew) ?_
  simp only [List.take_succ_cons, List.take_zero, List.drop_succ_cons, List.drop_zero]
  refine rel_move (v := .int .i64 ((q : Int) + 1)) rfl rfl ?_
  simp only [Act.put, List.setIfInBounds_toArray, List.set_cons_succ, List.set_cons_zero]
  refine rel_val (v := .bool true) rfl (fun w' hw => by go_simp) ?_
  simp only [Act.put, List.setIfInBounds_toArray, List.set_cons_succ, List.set_cons_zero]
  refine rel_move (v := .bool true) rfl rfl ?_
  simp only [Act.put, List.setIfInBounds_toArray, List.set_cons_succ, List.set_cons_zero]
  refine rel_move (v := .slice (some ⟨gl, 0, none⟩) n cl) rfl rfl ?_
  simp only [Act.put, List.setIfInBounds_toArray, List.set_cons_succ, List.set_cons_zero]
  refine rel_move (v := .slice (some ⟨g, 0, none⟩) m c) rfl rfl ?_
  simp only [Act.put, List.setIfInBounds_toArray, List.set_cons_succ, List.set_cons_zero]
  refine rel_move (v := .int .i64 ((q : Int) + 1)) rfl rfl ?_
  simp only [Act.put, List.setIfInBounds_toArray, List.set_cons_succ, List.set_cons_zero]
  refine rel_val (v := .int .i64 (q : Int)) rfl (fun w' hw => by go_simp; exact wrap_small q (by omega)) ?_
  simp only [Act.put, List.setIfInBounds_toArray, List.set_cons_succ, List.set_cons_zero]
  refine rel_val (v := .pointer (some ⟨g, q, none⟩)) rfl (fun w' hw => by go_simp) ?_
  simp only [Act.put, List.setIfInBounds_toArray, List.set_cons_succ, List.set_cons_zero]
  refine rel_val (v := .int .i64 (y : Int)) rfl (fun w' hw => by have h := CC.out w' hw; go_simp) ?_
  simp only [Act.put, List.setIfInBounds_toArray, List.set_cons_succ, List.set_cons_zero]
  refine rel_val (v := .pointer (some ⟨gl, y * 54, none⟩)) rfl (fun w' hw => by go_simp) ?_
  simp only [Act.put, List.setIfInBounds_toArray, List.set_cons_succ, List.set_cons_zero]
  refine rel_load_row gl (y * 54) ly.cells _ rfl rfl R1.out Try.underlying52 rfl S1.out ?_
  simp only [Act.put, List.setIfInBounds_toArray, List.set_cons_succ, List.set_cons_zero]
  refine rel_call (f := 53) (args := #[.agg ly.cells.toArray]) rfl (fun w' hw => by go_simp) (fun w' hw => (c53 w' ly HO.out.1).mono fun e w2 ⟨r, he, h, hb⟩ => ⟨_, he, GLv.of HO.out.1 h, hw.trans (hb.mono hw.size)⟩) (fun v hv => ?_)
  obtain ⟨r1, rfl, lv1⟩ := hv
  have LV1 := Lib.hid (lv1 _ HO.out.1 rfl)
  clear lv1
  simp only [Act.put, List.setIfInBounds_toArray, List.set_cons_succ, List.set_cons_zero]
  refine rel_move (v := .slice (some ⟨gl, 0, none⟩) n cl) rfl rfl ?_
  simp only [Act.put, List.setIfInBounds_toArray, List.set_cons_succ, List.set_cons_zero]
  refine rel_move (v := .int .i64 (i : Int)) rfl rfl ?_
  simp only [Act.put, List.setIfInBounds_toArray, List.set_cons_succ, List.set_cons_zero]
  refine rel_val (v := .pointer (some ⟨gl, i * 54, none⟩)) rfl (fun w' hw => by go_simp) ?_
  simp only [Act.put, List.setIfInBounds_toArray, List.set_cons_succ, List.set_cons_zero]
  refine rel_load_row gl (i * 54) li.cells _ rfl rfl R2.out Try.underlying52 rfl S2.out ?_
  simp only [Act.put, List.setIfInBounds_toArray, List.set_cons_succ, List.set_cons_zero]
  refine rel_call (f := 53) (args := #[.agg li.cells.toArray]) rfl (fun w' hw => by go_simp) (fun w' hw => (c53 w' li HO.out.2).mono fun e w2 ⟨r, he, h, hb⟩ => ⟨_, he, GLv.of HO.out.2 h, hw.trans (hb.mono hw.size)⟩) (fun v hv => ?_)
  obtain ⟨r2, rfl, lv2⟩ := hv
  have LV2 := Lib.hid (lv2 _ HO.out.2 rfl)
  clear lv2
  simp only [Act.put, List.setIfInBounds_toArray, List.set_cons_succ, List.set_cons_zero]
  refine rel_val (v := .bool (decide (zk (pl (if isN li.v then 0 else li.v)) < zk (pl (if isN ly.v then 0 else ly.v))))) rfl (fun w' hw => by have h := LV.gt LV1.out LV2.out; rw [← h]; go_simp) ?_
  simp only [Act.put, List.setIfInBounds_toArray, List.set_cons_succ, List.set_cons_zero]
  refine rel_val (v := .bool (decide (zk (pl (if isN li.v then 0 else li.v)) < zk (pl (if isN ly.v then 0 else ly.v))))) rfl (fun w' hw => by go_simp) ?_
  simp only [Act.put, List.setIfInBounds_toArray, List.set_cons_succ, List.set_cons_zero]
  refine rel_nil ?_
  intro w' hw
  refine wpList_nil ?_
  exact HF.out _ _ _ _ _ _ _ _ _ _ _ _ _ _ _ _ _ _ w' hw
end Go.Proofs.Ytedkbjimofiphaa
