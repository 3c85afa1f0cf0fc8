/- Quo of whole numbers. -/
import Derived.Test.YtjkifbkehochoaaGreatDoorLgH
namespace Go.Proofs.YtjkifbkehochoaaGreatDoor
open Go.RowKit Fl

theorem c81 {w : World} {v : Value} {x n : Nat} (hv : NV w v x) (hs : blen x ≤ 64000) (hn : 64 * (n / 64) < blen x) :
    Calls Tryz.prog 79 #[v, .int .i64 n] w fun e w' => Below w.heap.size w w' ∧ ∃ v', e = .returned (.tuple #[v', .bool (decide (x % 2 ^ n ≠ 0))]) ∧ NV w' v' (x / 2 ^ n) ∧ ∀ g, blk v' = some g → w.heap.size ≤ g := by
  obtain ⟨l, nl, hc, rfl⟩ := hv
  have hlen := len_small nl.1 hc (n := 1000) (by omega)
  have hb : blen (val l) ≤ 64 * l.length := blen_lt _ _ (by rw [← BB_pow]; exact val_lt nl.1)
  obtain ⟨b, o, c, rfl, hcl, hcm, hA⟩ := nl.addr (by omega)
  exact c81s nl.1 hc hA hcl hcm hlen (by omega) (by omega) (by omega)
theorem NV.le {w : World} {v : Value} {n m : Nat} (h : NV w v n) (e : n = m) : NV w v m := e ▸ h
theorem blen_mul (y n : Nat) (h : 0 < y) : blen (y * 2 ^ n) = blen y + n := by
  have := blen_top (r := 0) (m := n) (t := y) (Nat.two_pow_pos n) h
  rw [Nat.zero_add, Nat.mul_comm] at this
  omega
theorem blen_mono {x y : Nat} (h : x ≤ y) : blen x ≤ blen y := blen_lt _ _ (Nat.lt_of_le_of_lt h (lt_blen y))
theorem quo_start (x y n : Nat) (hy : 0 < y) (h : blen x = blen y + n) : QS x y (n + 1) x 0 := by
  refine ⟨?_, by omega, Nat.zero_mod _⟩
  have h1 := lt_blen x
  have h2 := le_blen y hy
  have h3 := blen_pos0 hy
  have h4 : 2 ^ blen x = 2 ^ (blen y - 1) * 2 ^ (n + 1) := by rw [← Nat.pow_add]; congr 1; omega
  have h5 : 2 ^ (blen y - 1) * 2 ^ (n + 1) ≤ y * 2 ^ (n + 1) := Nat.mul_le_mul_right _ h2
  omega
theorem lt_of_blen {x y : Nat} (h : blen x < blen y) : x < y := by
  rcases Nat.lt_or_ge x y with h1 | h1
  · exact h1
  · have := blen_mono h1; omega
theorem BdN {B : Nat} {a w : World} (h : Below B a w) (n : Nat) : Below B a (w.drewN n) := ⟨h.os, h.tape, h.output, h.size, h.block⟩
theorem NV.drew1 {w : World} {v : Value} {x : Nat} (h : NV w v x) : NV w.drew v x := h
theorem OU.drew' {w : World} {B : Nat} {v : Value} {l : List Nat} (h : OU w B v l) (m : Nat) : OU (w.drewN m) B v l := h
theorem cmp_ge {a b : Nat} {r : Int} (h : CmpR a b r) (hab : b ≤ a) : 0 ≤ r := by
  rcases Nat.lt_or_eq_of_le hab with h1 | h1
  · have := h.2.2 h1; omega
  · have := h.2.1 h1.symm; omega
theorem cmp_lt {a b : Nat} {r : Int} (h : CmpR a b r) (hab : ¬ b ≤ a) : ¬ 0 ≤ r := by
  have := h.1 (by omega); omega
/-- where Quo's loop stands -/
structure QM (w wx : World) (x y k : Nat) (av vq : Value) (m A : Nat) (ql : List Nat) : Prop where
  a : NV wx av A
  s : QS x y k A (val ql)
  o : OU wx w.heap.size vq ql
  w64 : W64 ql
  len : ql.length = m
  b : Below w.heap.size w wx
  z : w.heap.size < wx.heap.size
  pa : ∀ g, blk av = some g → g ≠ w.heap.size
structure QL (w wx : World) (x y k : Nat) (av dv vq : Value) (m A : Nat) (ql : List Nat) : Prop extends QM w wx x y k av vq m A ql where
  d : 0 < k → NV wx dv (y * 2 ^ (k - 1))
  pd : ∀ g, blk dv = some g → g ≠ w.heap.size
theorem NV.blk {w : World} {v : Value} {x : Nat} (h : NV w v x) {g : Nat} (hg : blk v = some g) : g < w.heap.size := by
  obtain ⟨l, ⟨_, h⟩, _⟩ := h
  rcases h with ⟨rfl, _⟩ | ⟨b, o, c, rfl, _, _, h4⟩
  · cases hg
  · cases hg; exact h4.1
theorem NV.set {w : World} {v : Value} {x G j : Nat} (h : NV w v x) (hg : ∀ g, Go.Proofs.YtjkifbkehochoaaGreatDoor.blk v = some g → g ≠ G) (z : Value) : NV (w.setCell ⟨G, j, none⟩ z) v x := by
  obtain ⟨l, ⟨h1, h⟩, h2, h3⟩ := h
  refine ⟨l, ⟨h1, ?_⟩, h2, h3⟩
  rcases h with h | ⟨b, o, c, rfl, h5, h6, h4⟩
  · exact .inl h
  · refine .inr ⟨b, o, c, rfl, h5, h6, by simpa using h4.1, fun k y hk => ?_⟩
    rw [World.cell?_setCell_other w _ _ _ (by intro e; have h8 := congrArg Addr.block e; first | exact hg b rfl h8 | exact hg b rfl h8.symm)]
    exact h4.2 k y hk
theorem QM.step {w wx wy : World} {x y k : Nat} {av vq dv : Value} {m A : Nat} {ql : List Nat} (h : QM w wx x y k av vq m A ql) (hb : Below wx.heap.size wx wy) (hd : NV wy dv (y * 2 ^ k / 2 ^ 1)) (hg : ∀ g, blk dv = some g → wx.heap.size ≤ g) : QL w wy x y k av dv vq m A ql := by
  refine ⟨⟨h.a.below hb, h.s, h.o.below hb, h.w64, h.len, h.b.trans (hb.mono (Nat.le_of_lt h.z)), Nat.lt_of_lt_of_le h.z hb.size, h.pa⟩, fun hk => ?_, fun g hgg e => ?_⟩
  · obtain ⟨i, rfl⟩ : ∃ i, k = i + 1 := ⟨k - 1, by omega⟩
    rw [Nat.pow_one, half_mul] at hd
    exact hd
  · have h1 := hg g hgg
    have h2 := h.z
    omega
set_option maxRecDepth 100000 in
set_option maxHeartbeats 2000000 in
theorem c39 {w : World} {v u : Value} {x y : Nat} (hv : NV w v x) (hu : NV w u y) (hy : 0 < y) (hs : blen x ≤ 60000) (hs2 : blen y ≤ 60000) :
    Calls Tryz.prog 40 #[v, u] w fun e w' => Below w.heap.size w w' ∧ ∃ v1 v2, e = .returned (.tuple #[v1, v2]) ∧ NV w' v1 (x / y) ∧ NV w' v2 (x % y) := by
  have C1 := Lib.hid (c80 hv (by omega))
  have C2 := Lib.hid (c80 hu (by omega))
  have i1 : (blen x : Int) ≤ 60000 := by omega
  have i2 : (blen y : Int) ≤ 60000 := by omega
  have i3 : (0 : Int) ≤ (blen x : Int) := by omega
  have i4 : (0 : Int) ≤ (blen y : Int) := by omega
  by_cases hlt : blen x < blen y
  · have hli : (blen x : Int) - (blen y : Int) < 0 := by omega
    have hxy := lt_of_blen hlt
    have HR : Hid (NV w (.slice none 0 0) (x / y) ∧ NV w v (x % y)) := Lib.hid ⟨by rw [Nat.div_eq_of_lt hxy]; exact ⟨[], ⟨fun x hx => (nomatch hx), .inl ⟨rfl, rfl⟩⟩, .inl rfl, rfl⟩, by rw [Nat.mod_eq_of_lt hxy]; exact hv⟩
    clear hv hu hs hs2 hlt hxy hy
    generalize blen x = bx at *
    generalize blen y = bY at *
    go_enter Tryz.func40, Tryz.ntmps40
    go_wp2_with (go_at_call 78; first | (with_reducible refine C1.out.mono ?_; rintro e w' ⟨rfl, rfl⟩) | (with_reducible refine C2.out.mono ?_; rintro e w' ⟨rfl, rfl⟩))
    go_ret2
    exact ⟨Below.refl _ _, _, _, rfl, HR.out.1, HR.out.2⟩
  · obtain ⟨n, hn⟩ : ∃ n, blen x = blen y + n := ⟨blen x - blen y, by omega⟩
    have ei : (blen x : Int) - (blen y : Int) = (n : Int) := by omega
    have hn2 : (n : Int) ≤ 60000 := by omega
    have hn0 : (0 : Int) ≤ (n : Int) := by omega
    obtain ⟨q, hq⟩ : ∃ q, q = n / 64 := ⟨_, rfl⟩
    have hqn : (n : Int) / 64 = (q : Int) := by omega
    have hq2 : (q : Int) ≤ 1000 := by omega
    have hmk : ∀ wx : World, (Instr.makeSlice 63 (.int .i64 ((n : Int) / 64 + 1)) (.int .i64 ((n : Int) / 64 + 1))).run Tryz.prog wx = .ok (.slice (some ⟨wx.heap.size, 0, none⟩) (q + 1) (q + 1)) (wx.alloc (.cells (madeCells #[.int .u64 0] (q + 1)) 27)) := fun wx => by
      have := run_mk (q + 1) (q + 1) (by omega) (by omega) wx
      push_cast at this
      rw [hqn]
      exact this
    have O0 := Lib.hid (OU.made w (p := q + 1) (q := q + 1) (by omega) (by unfold maxLen; omega) (B := w.heap.size) (Nat.le_refl _))
    have B0 : Hid (Below w.heap.size w (w.alloc (.cells (madeCells #[.int .u64 0] (q + 1)) 27))) := Lib.hid ((Below.refl _ _).alloc (Nat.le_refl _) _)
    have S0 := Lib.hid (quo_start x y n hy hn)
    have Z0 : Hid (w.heap.size < (w.alloc (.cells (madeCells #[.int .u64 0] (q + 1)) 27)).heap.size) := Lib.hid (by simp)
    have HQ := Lib.hid (And.intro hqn hq)
    have hq3 : (n : Int) / 64 ≤ 1000 := by omega
    have HN := Lib.hid (And.intro hn hs)
    have HV := Lib.hid (And.intro hv hu)
    have HY := Lib.hid hy
    clear hqn hq hn hlt hs hs2 hv hu hy
    generalize blen x = bx at C1 C2 i1 i2 i3 i4 ei
    generalize blen y = bY at C1 C2 i1 i2 i3 i4 ei
    go_enter Tryz.func40, Tryz.ntmps40
    go_upto_region 2 with (go_at_call 78; first | (with_reducible refine C1.out.mono ?_; rintro e w' ⟨rfl, rfl⟩) | (with_reducible refine C2.out.mono ?_; rintro e w' ⟨rfl, rfl⟩))
    have CL := Lib.hid (fun (wx : World) (h : Below w.heap.size w wx) => c40b (n := n) (HV.out.2.below h) (by have := HN.out; omega))
    go_upto_region 5 with fail
    generalize w.alloc (.cells (madeCells #[.int .u64 0] (q + 1)) 27) = w1 at *
    go_upto_region 6 with (go_at_call 71; refine (CL.out _ B0.out).mono ?_; rintro e w2 ⟨hb, d0, rfl, hd, hg0⟩; have L0 : Hid (QL w w2 x y (n + 1) v d0 (.slice (some ⟨w.heap.size, 0, none⟩) (q + 1) (q + 1)) (q + 1) x (List.replicate (q + 1) 0)) := Lib.hid ⟨⟨HV.out.1.below (B0.out.trans (hb.mono B0.out.size)), (val_replicate (q + 1)).symm ▸ S0.out, O0.out.below hb, W64.replicate _, List.length_replicate .., B0.out.trans (hb.mono B0.out.size), Nat.lt_of_lt_of_le Z0.out hb.size, fun g hg e => Nat.lt_irrefl _ (e ▸ HV.out.1.blk hg)⟩, fun _ => hd, fun g hg e => by have := hg0 g hg; have := Z0.out; omega⟩; clear hb hd hg0)
    clear hmk O0 B0 S0 Z0 CL C1 C2
    go_wp2_with fail
    go_loopw [0, 8, 9] (fun av dv i wx => ∃ (k A : Nat) (ql : List Nat), k ≤ n + 1 ∧ i = .int .i64 ((k : Int) - 1) ∧ Hid (QL w wx x y k av dv (.slice (some ⟨w.heap.size, 0, none⟩) (q + 1) (q + 1)) (q + 1) A ql)) (fun _ _ i _ => (intOf i + 1).toNat)
    case atStart => exact ⟨n + 1, x, _, Nat.le_refl _, by congr 1; omega, L0⟩
    case round =>
      obtain ⟨k, A, ql, hk, rfl, hL⟩ := hrel
      rcases k with _ | i
      · have ez : ((0 : Nat) : Int) - 1 = -1 := rfl
        rw [ez]
        have D := hL.out.s.done
        have C := Lib.hid (c82 (hL.out.o.nl hL.out.w64))
        go_wp2_with (go_at_call 80; refine C.out.mono ?_; rintro e w2 ⟨rfl, v2, rfl, hv2⟩; have R2 : Hid (NV wr v2 (x / y)) := Lib.hid ⟨_, hv2, tn_can _ (Nat.le_refl _), by rw [tn_val _ (Nat.le_refl _), List.take_length]; exact D.2⟩; clear hv2 C)
        go_ret2
        exact ⟨hL.out.b, _, _, rfl, R2.out, hL.out.a.le D.1⟩
      · have ei2 : ((i + 1 : Nat) : Int) - 1 = (i : Int) := by omega
        rw [ei2]
        clear ei2
        have hin : (i : Int) ≤ 60000 := by omega
        have HI := Lib.hid hk
        have hd : NV wr u8 (y * 2 ^ i) := hL.out.d (Nat.succ_pos _)
        have hbA : blen A ≤ 60000 := Nat.le_trans (blen_mono (by have := hL.out.s.sum; omega)) HN.out.2
        have hbD : blen (y * 2 ^ i) ≤ 60000 := by rw [blen_mul y i HY.out]; have := HN.out; omega
        have CM := Lib.hid (c41 hL.out.a hd (by omega) (by omega))
        have HD := Lib.hid (And.intro hd (And.intro hbA hbD))
        clear hd hbA hbD hk
        by_cases hge : y * 2 ^ i ≤ A
        · have HG := Lib.hid hge
          clear hge
          have CS := Lib.hid (fun m => c61b (hL.out.a.drew m) (HD.out.1.drew m) HG.out (by have := HD.out; omega))
          go_upto_region 11 with (first
            | (go_at_call 44; refine CM.out.mono ?_; rintro e w3 ⟨⟨rc, rfl, hr⟩, m, rfl⟩; have hrc := cmp_ge hr HG.out; clear hr CM)
            | (go_at_call 43; refine (CS.out m).mono ?_; rintro e w4 ⟨hb4, v4, rfl, hv4, hg4⟩; have L4 := Lib.hid (And.intro hb4 (And.intro hv4 hg4)); clear hb4 hv4 hg4 CS))
          obtain ⟨j, hj⟩ : ∃ j, j = i / 64 := ⟨_, rfl⟩
          obtain ⟨t, ht⟩ : ∃ t, t = i % 64 := ⟨_, rfl⟩
          have ht1 : (i : Int).tdiv 64 = (j : Int) := by rw [Int.tdiv_eq_ediv_of_nonneg (by omega)]; omega
          have ht2 : (i : Int).tmod 64 = (t : Int) := by rw [Int.tmod_eq_emod_of_nonneg (by omega)]; omega
          have ht3 : ¬ ((t : Int) < 0) := by omega
          have hjq : j < q + 1 := by have := HQ.out.2; have := HI.out; omega
          have hj2 : (j : Int) < ((q + 1 : Nat) : Int) := by omega
          have hj3 : (j : Int) < (q : Int) + 1 := by omega
          have O4 : OU w4 w.heap.size (.slice (some ⟨w.heap.size, 0, none⟩) (q + 1) (q + 1)) ql := (hL.out.o.drew' m).below L4.out.1
          obtain ⟨xw, hxw⟩ : ∃ xw, ql[j]? = some xw := ⟨ql[j]'(by rw [hL.out.len]; exact hjq), List.getElem?_eq_getElem _⟩
          obtain ⟨kq, kf⟩ := O4.cell hL.out.len.symm hxw
          have HO4 := Lib.hid O4
          have HX := Lib.hid (And.intro hxw (And.intro hj ht))
          clear O4 hxw hj ht
          go_region
          have hmin : min t 64 = t := by have := HX.out.2.2; omega
          rw [hmin]
          have VB := val_bit hL.out.w64 (i := i) (x := xw) (by rw [← HX.out.2.1]; exact HX.out.1) hL.out.s.low
          have e2 : bits .or .u64 (xw : Int) (IntKind.u64.wrap (2 ^ t)) = ((xw ||| 2 ^ t : Nat) : Int) := by
            have h1 : (2 : Nat) ^ t ≤ 2 ^ 63 := Nat.pow_le_pow_right (by decide) (by have := HX.out.2.2; omega)
            have h0 := Nat.two_pow_pos t
            rw [show ((2 : Int) ^ t) = ((2 ^ t : Nat) : Int) from by push_cast; rfl, u64_wrap, Nat.mod_eq_of_lt (show 2 ^ t < BB by unfold BB; omega), u64_or_nat _ _ (show xw < 18446744073709551616 from hL.out.w64 xw (List.mem_of_getElem? HX.out.1)) (by omega)]
          rw [e2]
          rw [← HX.out.2.1, ← HX.out.2.2] at VB
          have L5 : Hid (QM w ((w4.setCell ⟨w.heap.size, j, none⟩ (.int .u64 ((xw ||| 2 ^ t : Nat) : Int))).drew) x y i v4 (.slice (some ⟨w.heap.size, 0, none⟩) (q + 1) (q + 1)) (q + 1) (A - y * 2 ^ i) (ql.set j (xw ||| 2 ^ t)) ∧ NV ((w4.setCell ⟨w.heap.size, j, none⟩ (.int .u64 ((xw ||| 2 ^ t : Nat) : Int))).drew) u8 (y * 2 ^ i)) := Lib.hid (by
            have hd4 : NV w4 u8 (y * 2 ^ i) := (HD.out.1.drew m).below L4.out.1
            have pv4 : ∀ g, blk v4 = some g → g ≠ w.heap.size := fun g hg e => by have h1 := L4.out.2.2 g hg; have h2 := hL.out.z; have h3 : (wr.drewN m).heap.size = wr.heap.size := rfl; omega
            have z4 : w.heap.size < w4.heap.size := Nat.lt_of_lt_of_le hL.out.z L4.out.1.size
            refine ⟨⟨(L4.out.2.1.set pv4 _).drew1, ?_, (HO4.out.put hL.out.len.symm (by rw [hL.out.len]; exact hjq) _).drew, hL.out.w64.set VB.2, by rw [List.length_set]; exact hL.out.len, (((BdN hL.out.b m).trans (L4.out.1.mono (Nat.le_of_lt hL.out.z))).setCell (Nat.le_refl _) _).drew, by simpa using z4, pv4⟩, (hd4.set hL.out.pd _).drew1⟩
            · rw [VB.1]; exact hL.out.s.take HG.out)
          generalize ((w4.setCell ⟨w.heap.size, j, none⟩ (.int .u64 ((xw ||| 2 ^ t : Nat) : Int))).drew) = w5 at *
          clear HO4 kq kf
          have CR : Hid (Calls Tryz.prog 79 #[u8, .int .i64 1] w5 _) := Lib.hid (c81 (n := 1) L5.out.2 (by have := HD.out; omega) (by have := blen_pos0 (Nat.mul_pos HY.out (Nat.two_pow_pos i)); simpa using this))
          go_wp2_with (go_at_call 79; refine CR.out.mono ?_; rintro e w6 ⟨hb6, d6, rfl, hd6, hg6⟩; have L6 := Lib.hid (And.intro hb6 (And.intro hd6 hg6)); clear hb6 hd6 hg6 CR)
          go_roundw
          case rel => exact ⟨i, A - y * 2 ^ i, _, by have := HI.out; omega, rfl, Lib.hid (L5.out.1.step L6.out.1 L6.out.2.1 L6.out.2.2)⟩
          case measure => simp [intOf]
        · have HG := Lib.hid hge
          clear hge
          have L5 : Hid (∀ m, QM w (wr.drewN m) x y i u0 (.slice (some ⟨w.heap.size, 0, none⟩) (q + 1) (q + 1)) (q + 1) A ql ∧ NV (wr.drewN m) u8 (y * 2 ^ i)) := Lib.hid fun m => ⟨⟨hL.out.a.drew m, hL.out.s.skip (Nat.lt_of_not_le HG.out), hL.out.o.drew' m, hL.out.w64, hL.out.len, BdN hL.out.b m, hL.out.z, hL.out.pa⟩, HD.out.1.drew m⟩
          have CR := Lib.hid (fun m => c81 (n := 1) (L5.out m).2 (by have := HD.out; omega) (by have := blen_pos0 (Nat.mul_pos HY.out (Nat.two_pow_pos i)); simpa using this))
          go_wp2_with (first
            | (go_at_call 44; refine CM.out.mono ?_; rintro e w3 ⟨⟨rc, rfl, hr⟩, m, rfl⟩; have hrc := cmp_lt hr HG.out; clear hr CM)
            | (go_at_call 79; refine (CR.out m).mono ?_; rintro e w6 ⟨hb6, d6, rfl, hd6, hg6⟩; have L6 := Lib.hid (And.intro hb6 (And.intro hd6 hg6)); clear hb6 hd6 hg6 CR))
          go_roundw
          case rel => exact ⟨i, A, _, by have := HI.out; omega, rfl, Lib.hid ((L5.out m).1.step L6.out.1 L6.out.2.1 L6.out.2.2)⟩
          case measure => simp [intOf]
end Go.Proofs.YtjkifbkehochoaaGreatDoor
