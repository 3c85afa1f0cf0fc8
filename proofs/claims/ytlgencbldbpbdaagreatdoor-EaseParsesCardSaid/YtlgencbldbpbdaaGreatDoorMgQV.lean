/- galleyref03: value. galleyref03.Read. -/
import Derived.Test.YtlgencbldbpbdaaGreatDoorQS
import Derived.Test.YtlgencbldbpbdaaGreatDoorAcc
import Derived.Test.YtlgencbldbpbdaaGreatDoorMgFl
import Derived.Deep.CutBlock
namespace Go.Proofs.YtlgencbldbpbdaaGreatDoor.R
open Go.RowKit Fl
theorem size_setCells (w : World) (b o : Nat) (vs : List Value) : (w.setCells b o vs).heap.size = w.heap.size := by
 induction vs generalizing o w with
 | nil => rfl
 | cons v r ih => rw [World.setCells, ih]; simp
theorem size79b (va vb : Value) : (Tryz.prog.info? 235).map (·.size) = some (#[va, vb] : Array Value).size := by kernel_rfl
theorem there2 {w wx : World} (h : Below (w.alloc (.cells #[.slice none 0 0, .slice none 0 0] 235)).heap.size (w.alloc (.cells #[.slice none 0 0, .slice none 0 0] 235)) wx) : wx.there w.heap.size 0 2 := fun j hj => by
 rw [h.cell (p := ⟨w.heap.size, 0 + j, none⟩) (by simp), h.frozen (p := ⟨w.heap.size, 0 + j, none⟩) (by simp)]
 match j, hj with
 | 0, _ => simp [go_sem]
 | 1, _ => simp [go_sem]
theorem slice_one {w : World} {v : Value} {x : Nat} (h : NV w v x) : v.oneCell' = true := by
 obtain ⟨l, h, _, _⟩ := h
 obtain ⟨A, c, rfl⟩ := h.form
 rfl
theorem two_one {w w' : World} {va vb : Value} {x y : Nat} (ha : NV w va x) (hb : NV w' vb y) : (#[va, vb] : Array Value).all (·.oneCell') = true := by
 have h1 := slice_one ha
 have h2 := slice_one hb
 simp [h1, h2]
theorem NV.set {w : World} {v : Value} {x c : Nat} {l : List Value} (h : NV w v x) (hc : ∀ o z, w.cell? ⟨c, o, none⟩ ≠ some (.int .u32 z)) : NV (w.setCells c 0 l) v x := by
 obtain ⟨ys, ⟨h1, h2⟩, h3, h4⟩ := h
 refine ⟨ys, ⟨h1, ?_⟩, h3, h4⟩
 rcases h2 with h2 | ⟨b, o, cp, rfl, h5, h6, h7⟩
 ·exact .inl h2
 ·refine .inr ⟨b, o, cp, rfl, h5, h6, by rw [size_setCells]; exact h7.1, fun j z hj => ?_⟩
  have k := h7.2 j z hj
  refine (World.cell?_setCells_out _ _ _ _ _ (fun e _ => ?_)).trans k
  have e : b = c := e
  subst e
  exact absurd k (hc _ _)
theorem not_int {w wx : World} (h : Below (w.alloc (.cells #[.slice none 0 0, .slice none 0 0] 235)).heap.size (w.alloc (.cells #[.slice none 0 0, .slice none 0 0] 235)) wx) (o : Nat) (z : Int) : wx.cell? ⟨w.heap.size, o, none⟩ ≠ some (.int .u32 z) := by
 rw [h.cell (p := ⟨w.heap.size, o, none⟩) (by simp)]
 match o with
 | 0 => simp [go_sem]
 | 1 => simp [go_sem]
 | o + 2 => simp [go_sem]
theorem NV.slice {w : World} {v : Value} {x : Nat} (h : NV w v x) : ∃ A m c, v = .slice A m c := by
 obtain ⟨l, h, _, _⟩ := h
 obtain ⟨A, c, rfl⟩ := h.form
 exact ⟨_, _, _, rfl⟩
theorem below_new (w : World) (o : Obj) : Below w.heap.size w (w.alloc o) := (Below.refl _ _).alloc (Nat.le_refl _) _
set_option maxRecDepth 100000 in
set_option maxHeartbeats 2000000 in
theorem cValueP {w : World} {v : Value} {x n L : Nat} (hv : NV w v x) (hL : L ≤ 9000) (h1 : x * 10 ^ n < BB ^ L) (hn : n ≤ 1000000) :
  Calls Tryz.prog 163 #[v, .int .i64 n] w fun e w' => Below w.heap.size w w' ∧ ∃ va vb, e = .returned (.agg #[va, vb]) ∧ NV w' va (x * 10 ^ n) ∧ NV w' vb 1 := by
 have B0 := Lib.hid (below_new w (.cells #[.slice none 0 0, .slice none 0 0] 235))
 have CT := Lib.hid (cTens (w := w.alloc (.cells #[.slice none 0 0, .slice none 0 0] 235)) (hv.below (below_new _ _)) (show L ≤ 10000 by omega) h1 hn)
 have CO := Lib.hid (fun w => cOf 1 w (by decide))
 have n0 : (0 : Int) ≤ (n : Int) := by omega
 clear hv hL h1 hn
 go_enter Tryz.func163, Tryz.ntmps163
 go_wp2_with (first
  | (go_at_call 225; refine CT.out.mono ?_; rintro e w2 ⟨hb, va, rfl, hva⟩; obtain ⟨A1, m1, c1, rfl⟩ := hva.slice; have J := Lib.hid hb; have KA := Lib.hid hva; clear hb hva)
  | (go_at_call 164; refine (CO.out _).mono ?_; rintro e w3 ⟨hb, vb, rfl, hvb, hg⟩; obtain ⟨A2, m2, c2, rfl⟩ := hvb.slice; have J2 := Lib.hid (J.out.trans (hb.mono J.out.size)); have KA2 := Lib.hid (KA.out.below hb); have KB := Lib.hid hvb; have T := Lib.hid (there2 J2.out); clear hb hvb hg)
  | (refine wpList_store_mid rfl 235 (.tmp 4) (.tmp 11) rfl w.heap.size 0 #[.slice A1 m1 c1, .slice A2 m2 c2] rfl rfl T.out (size79b _ _) (two_one KA2.out KB.out) ?_))
 have B1 := Lib.hid (below_setCells (B0.out.trans (J2.out.mono (by simp))) (Nat.le_refl w.heap.size) 0 [Value.slice A1 m1 c1, .slice A2 m2 c2])
 have K1 := Lib.hid (KA2.out.set (l := [Value.slice A1 m1 c1, .slice A2 m2 c2]) (not_int J2.out))
 have K2 := Lib.hid (KB.out.set (l := [Value.slice A1 m1 c1, .slice A2 m2 c2]) (not_int J2.out))
 exact bodyPost_ret (v := .agg #[.slice A1 m1 c1, .slice A2 m2 c2]) (results_cell1 Tryz.results163 rfl (run_loadVar_mid (P := Tryz.prog) _ _ 0 235 [Value.slice A1 m1 c1, .slice A2 m2 c2] _ (World.rangeAt_setCells_same _ _ _ _ T.out) Tryz.underlying235 rfl (size79 _ _))) rfl ⟨B1.out, _, _, rfl, K1.out, K2.out⟩
set_option maxRecDepth 100000 in
set_option maxHeartbeats 2000000 in
theorem cValueN {w : World} {v : Value} {x n L : Nat} (hv : NV w v x) (hL : L ≤ 9000) (h1 : 10 ^ n < BB ^ L) (hn : n ≤ 1000000) (hn0 : 0 < n) :
  Calls Tryz.prog 163 #[v, .int .i64 (-(n : Int))] w fun e w' => Below w.heap.size w w' ∧ ∃ va vb, e = .returned (.agg #[va, vb]) ∧ NV w' va x ∧ NV w' vb (10 ^ n) := by
 have B0 := Lib.hid (below_new w (.cells #[.slice none 0 0, .slice none 0 0] 235))
 have HV := Lib.hid (hv.below (below_new w (.cells #[.slice none 0 0, .slice none 0 0] 235)))
 have CO := Lib.hid (cOf 1 (w.alloc (.cells #[.slice none 0 0, .slice none 0 0] 235)) (by decide))
 have CT := Lib.hid (fun (wx : World) v (h : NV wx v 1) => show Calls Tryz.prog 225 #[v, .int .i64 n] wx fun e w' => Below wx.heap.size wx w' ∧ ∃ v', e = .returned v' ∧ NV w' v' (10 ^ n) from by
  have := cTens h (show L ≤ 10000 by omega) (by rw [Nat.one_mul]; exact h1) hn
  rw [Nat.one_mul] at this
  exact this)
 obtain ⟨A1, m1, c1, rfl⟩ := hv.slice
 have n0 : ¬ (0 : Int) ≤ -(n : Int) := by omega
 have n2 : IntKind.i64.wrap (- -(n : Int)) = (n : Int) := by rw [Int.neg_neg]; exact IntWalk.i64_in _ (by omega)
 have n3 : (n : Int) ≤ 1000000 := by omega
 clear hv hL h1 hn hn0
 go_enter Tryz.func163, Tryz.ntmps163
 go_wp2_with (first
  | (go_at_call 164; refine CO.out.mono ?_; rintro e w2 ⟨hb, v1, rfl, hv1, hg⟩; have J := Lib.hid hb; have KA := Lib.hid hv1; have KV := Lib.hid (HV.out.below hb); clear hb hv1 hg)
  | (go_at_call 225; refine (CT.out _ _ KA.out).mono ?_; rintro e w3 ⟨hb, vb, rfl, hvb⟩; obtain ⟨A2, m2, c2, rfl⟩ := hvb.slice; have J2 := Lib.hid (J.out.trans (hb.mono J.out.size)); have KA2 := Lib.hid (KV.out.below hb); have KB := Lib.hid hvb; have T := Lib.hid (there2 J2.out); clear hb hvb)
  | (refine wpList_store_mid rfl 235 (.tmp 4) (.tmp 17) rfl w.heap.size 0 #[.slice A1 m1 c1, .slice A2 m2 c2] rfl rfl T.out (size79b _ _) (two_one KA2.out KB.out) ?_))
 have B1 := Lib.hid (below_setCells (B0.out.trans (J2.out.mono (by simp))) (Nat.le_refl w.heap.size) 0 [Value.slice A1 m1 c1, .slice A2 m2 c2])
 have K1 := Lib.hid (KA2.out.set (l := [Value.slice A1 m1 c1, .slice A2 m2 c2]) (not_int J2.out))
 have K2 := Lib.hid (KB.out.set (l := [Value.slice A1 m1 c1, .slice A2 m2 c2]) (not_int J2.out))
 exact bodyPost_ret (v := .agg #[.slice A1 m1 c1, .slice A2 m2 c2]) (results_cell1 Tryz.results163 rfl (run_loadVar_mid (P := Tryz.prog) _ _ 0 235 [Value.slice A1 m1 c1, .slice A2 m2 c2] _ (World.rangeAt_setCells_same _ _ _ _ T.out) Tryz.underlying235 rfl (size79 _ _))) rfl ⟨B1.out, _, _, rfl, K1.out, K2.out⟩
end Go.Proofs.YtlgencbldbpbdaaGreatDoor.R
namespace Go.Proofs.YtlgencbldbpbdaaGreatDoor.R
open Go.RowKit Fl
theorem ten_lt {n q : Nat} (h : 4 * n < 32 * q) : 10 ^ n < BB ^ q := by
 rw [BB_pow]
 have h1 : 10 ^ n ≤ 16 ^ n := Nat.pow_le_pow_left (by decide) n
 have h2 : (16 : Nat) ^ n = 2 ^ (4 * n) := by rw [Nat.pow_mul]
 rw [h2] at h1
 exact Nat.lt_of_le_of_lt h1 (Nat.pow_lt_pow_right (by decide) h)
theorem nv_nil (w : World) : NV (w.alloc (.cells #[] 47)) (.slice (some ⟨w.heap.size, 0, none⟩) 0 0) 0 :=
 ⟨[], ⟨fun x hx => (nomatch hx), .inr ⟨w.heap.size, 0, 0, rfl, Nat.le_refl _, Nat.zero_le _, by simp, fun j x hj => (nomatch hj)⟩⟩, .inl rfl, rfl⟩
set_option maxRecDepth 100000 in
set_option maxHeartbeats 4000000 in
theorem cRead (s : ByteArray) (point : Int) (w : World) (hd : DG (bl s)) (hs : s.size ≤ 1000000000) (hp : -9223372036854775808 ≤ point ∧ point ≤ 9223372036854775807) :
  Calls Tryz.prog 221 #[.string s, .int .i64 point] w fun e w' => e = .returned (.int .u64 (readF (bl s) point : Nat)) ∧ Below w.heap.size w w' := by
 have HD := Lib.hid hd
 have LB := Lib.hid (bl_len s)
 have hp1 := hp.1
 have hp2 := hp.2
 have hs2 : (s.size : Int) ≤ 1000000000 := by omega
 obtain ⟨R, hR⟩ : ∃ R, R = readF (bl s) point := ⟨_, rfl⟩
 rw [← hR]
 have HR := Lib.hid hR
 obtain ⟨f, hf⟩ : ∃ f, f = lead (bl s) := ⟨_, rfl⟩
 have HF := Lib.hid hf
 have fle : f ≤ s.size := by rw [hf, ← bl_len s]; exact lead_le _
 have FLE := Lib.hid fle
 have f2 : (f : Int) ≤ (s.size : Int) := by omega
 clear hd hp hs hR hf
 go_enter Tryz.func221, Tryz.ntmps221
 go_upto_block 0 with fail
 go_cut [5] (fun u wx => u = .int .i64 (f : Int) ∧ wx = w)
 case first =>
  go_wp2_with fail
  go_loopw [5] (fun i wx => ∃ k : Nat, i = .int .i64 k ∧ Hid (k ≤ s.size ∧ f = k + lead ((bl s).drop k)) ∧ wx = w) (fun i _ => s.size - (intOf i).toNat)
  case atStart => exact ⟨0, rfl, Lib.hid ⟨Nat.zero_le _, by rw [List.drop_zero, Nat.zero_add, HF.out]⟩, rfl⟩
  case round =>
   obtain ⟨k, rfl, hI, rfl⟩ := hrel
   by_cases hlt : k < s.size
   ·have hk2 : (k : Int) < (s.size : Int) := by omega
    have hx := bl_get s k hlt
    have hst := lead_step hx
    by_cases h0 : (s[k]).toNat = 48
    ·rw [if_pos h0] at hst
     have E : Hid (k + 1 ≤ s.size ∧ f = k + 1 + lead ((bl s).drop (k + 1))) := Lib.hid ⟨hlt, by have := hI.out.2; omega⟩
     have b0 : ((s[k]).toNat : Int) = 48 := by omega
     clear hx hst
     go_wp2_with fail
     go_roundw
     case rel => exact ⟨k + 1, by go_num, E, trivial⟩
     case measure => simp [intOf]; omega
    ·rw [if_neg h0] at hst
     have E : Hid (k = f) := Lib.hid (by have := hI.out.2; omega)
     have b0 : ¬ ((s[k]).toNat : Int) = 48 := by omega
     clear hx hst
     go_wp2_with fail
     go_meet
     exact ⟨by rw [E.out], rfl⟩
   ·have hk2 : ¬ (k : Int) < (s.size : Int) := by omega
    have E : Hid (k = f) := Lib.hid (by
     have h1 := hI.out
     have : (bl s).drop k = [] := List.drop_eq_nil_of_le (by rw [LB.out]; omega)
     rw [this] at h1
     have : lead [] = 0 := rfl
     omega)
    go_wp2_with fail
    go_meet
    exact ⟨by rw [E.out], rfl⟩
 case rest =>
  obtain ⟨rfl, rfl⟩ := hcut
  obtain ⟨t, ht⟩ : ∃ t, t = te (bl s) f s.size := ⟨_, rfl⟩
  have HT := Lib.hid ht
  have t1 : t ≤ s.size := by rw [ht]; exact te_le _ _ _
  have t2 : f ≤ t := by rw [ht]; exact te_ge _ _ _ FLE.out
  have TL := Lib.hid (And.intro t1 t2)
  clear ht
  go_upto_block 2 with fail
  go_cut [6] (fun u wx => u = .int .i64 (t : Int) ∧ wx = wc)
  case first =>
   go_wp2_with fail
   go_loopw [6] (fun i wx => ∃ k : Nat, i = .int .i64 k ∧ Hid (k ≤ s.size ∧ f ≤ k ∧ t = te (bl s) f k) ∧ wx = wc) (fun i _ => (intOf i).toNat)
   case atStart => exact ⟨s.size, rfl, Lib.hid ⟨Nat.le_refl _, FLE.out, HT.out⟩, rfl⟩
   case round =>
    obtain ⟨k, rfl, hI, rfl⟩ := hrel
    have ks : (k : Int) ≤ (s.size : Int) := by have := hI.out.1; omega
    by_cases hlt : f < k
    ·obtain ⟨j, rfl⟩ : ∃ j, k = j + 1 := ⟨k - 1, by omega⟩
     have hk2 : (f : Int) < ((j + 1 : Nat) : Int) := by omega
     have hk3 : (f : Int) < (j : Int) + 1 := by omega
     have hjs : j < s.size := by have := hI.out.1; omega
     have hj2 : (j : Int) < (s.size : Int) := by omega
     have hst := hI.out.2.2
     rw [te, bl_getD s j hjs] at hst
     by_cases h0 : (s[j]).toNat = 48
     ·rw [if_pos ⟨hlt, h0⟩] at hst
      have E : Hid (j ≤ s.size ∧ f ≤ j ∧ t = te (bl s) f j) := Lib.hid ⟨Nat.le_of_lt hjs, by omega, hst⟩
      have b0 : ((s[j]).toNat : Int) = 48 := by omega
      clear hst hlt
      go_wp2_with fail
      go_roundw
      case rel => exact ⟨j, by go_num, E, trivial⟩
      case measure => simp [intOf]
     ·rw [if_neg (fun e => h0 e.2)] at hst
      have E := Lib.hid hst
      have b0 : ¬ ((s[j]).toNat : Int) = 48 := by omega
      clear hst hlt
      go_wp2_with fail
      go_meet
      exact ⟨by rw [E.out], rfl⟩
    ·have hk2 : ¬ (f : Int) < (k : Int) := by omega
     have E : Hid (t = k) := Lib.hid (by
      have h1 := hI.out
      have h2 := te_le (bl s) f k
      have h3 := te_ge (bl s) f k h1.2.1
      omega)
     go_wp2_with fail
     go_meet
     exact ⟨by rw [E.out], rfl⟩
  case rest =>
   obtain ⟨rfl, rfl⟩ := hcut
   have SL : (stripD (bl s)).length = t - f := by rw [strip_len, ← HF.out, LB.out, ← HT.out]
   have SL := Lib.hid SL
   have RF := HR.out
   unfold readF at RF
   rw [← HF.out] at RF
   have t3 : (t : Int) ≤ (s.size : Int) := by omega
   have t4 : (f : Int) ≤ (t : Int) := by omega
   by_cases h1 : f = t
   ·have e : stripD (bl s) = [] := List.eq_nil_of_length_eq_zero (by rw [SL.out]; omega)
    rw [if_pos (.inl e)] at RF
    have RF := Lib.hid RF
    subst h1
    clear e
    go_wp2
    go_ret
    exact ⟨ret_int (by have := RF.out; omega), Below.refl _ _⟩
   ·have h2 : ¬ (f : Int) = (t : Int) := by omega
    have hne : ¬ stripD (bl s) = [] := fun e => h1 (by have := SL.out; rw [e] at this; simp at this; omega)
    by_cases h3 : point < -1099511627776
    ·rw [if_pos (.inr h3)] at RF
     have RF := Lib.hid RF
     clear hne
     go_wp2
     go_ret
     exact ⟨ret_int (by have := RF.out; omega), Below.refl _ _⟩
    ·rw [if_neg (fun e => e.elim hne h3)] at RF
     by_cases h4 : 1099511627776 < point
     ·rw [if_pos (by omega)] at RF
      have RF := Lib.hid RF
      clear hne
      go_wp2
      go_ret
      exact ⟨ret_int (by have := RF.out; unfold INF at this; omega), Below.refl _ _⟩
     ·have hw : IntKind.i64.wrap (point - (f : Int)) = point - (f : Int) := IntWalk.i64_in _ (by omega)
      by_cases h5 : 400 < point - (f : Int)
      ·rw [if_pos h5] at RF
       have RF := Lib.hid RF
       clear hne
       go_wp2
       go_ret
       exact ⟨ret_int (by have := RF.out; unfold INF at this; omega), Below.refl _ _⟩
      ·rw [if_neg h5] at RF
       by_cases h6 : point - (f : Int) < -400
       ·rw [if_pos h6] at RF
        have RF := Lib.hid RF
        clear hne
        go_wp2
        go_ret
        exact ⟨ret_int (by have := RF.out; omega), Below.refl _ _⟩
       ·rw [if_neg h6] at RF
        have RF := Lib.hid RF
        clear hne
        go_upto_region 17 with fail
        obtain ⟨z, hz⟩ : ∃ z, z = s.extract f t := ⟨_, rfl⟩
        rw [← hz]
        have zl : bl z = stripD (bl s) := by rw [hz, bl_extract]; unfold stripD; rw [← HF.out, LB.out, ← HT.out]
        have zs : z.size = t - f := by rw [← bl_len, zl, SL.out]
        have ZL := Lib.hid zl
        have zi : (z.size : Int) ≤ 1000000000 := by omega
        have TF := Lib.hid (And.intro h1 zs)
        clear hz zl h1 zs
        go_upto_if 59 with fail
        go_cut [8] (fun u wx => ∃ d : ByteArray, u = .string d ∧ Hid (bl d = cutD (stripD (bl s))) ∧ wx = wc)
        case first =>
         by_cases h8 : 800 < z.size
         ·have h9 : (800 : Int) < (z.size : Int) := by omega
          rw [show decide ((800 : Int) < (z.size : Int)) = true from decide_eq_true h9]
          have E : Hid (bl (z.extract 0 800 ++ ⟨#[49]⟩) = cutD (stripD (bl s))) := Lib.hid (by
           rw [bl_append, bl_extract, List.drop_zero, ZL.out]
           unfold cutD
           rw [if_pos (by rw [SL.out, ← TF.out.2]; exact h8)]
           rfl)
          clear h8
          go_wp2_with fail
          go_meet
          exact ⟨_, rfl, E, rfl⟩
         ·have h9 : ¬ (800 : Int) < (z.size : Int) := by omega
          rw [show decide ((800 : Int) < (z.size : Int)) = false from decide_eq_false h9]
          have E : Hid (bl z = cutD (stripD (bl s))) := Lib.hid (by
           unfold cutD
           rw [if_neg (by rw [SL.out, ← TF.out.2]; exact h8)]
           exact ZL.out)
          clear h8
          go_wp2_with fail
          go_meet
          exact ⟨_, rfl, E, rfl⟩
        case rest =>
         obtain ⟨d, rfl, hd, rfl⟩ := hcut
         obtain ⟨p, hp⟩ : ∃ p, p = point - (f : Int) := ⟨_, rfl⟩
         rw [← hp] at RF h5 h6 ⊢
         clear hw zi hp
         have DD := Lib.hid (show DG (bl d) by rw [hd.out]; exact HD.out.strip.cut)
         have dl : d.size ≤ 801 := by rw [← bl_len, hd.out]; exact cut_len _
         have RF2 : Hid (R = numF (bl d) p) := Lib.hid (by rw [hd.out]; exact RF.out)
         have DB := Lib.hid (bl_len d)
         clear hd RF HR HF FLE HT TL SL ZL TF HD LB t1 t2 t3 t4 h2 h3 h4 fle f2 hp1 hp2 hs2
         have DL := Lib.hid dl
         have dl2 : (d.size : Int) ≤ 801 := by omega
         have pe : (p - (d.size : Int)) = p - (d.size : Int) := rfl
         go_upto_region 20 with fail
         refine wp_gen' (fun wx => Hid (NV wx (.slice (some ⟨wc.heap.size, 0, none⟩) 0 0) 0 ∧ Below wc.heap.size wc wx)) (Lib.hid ⟨nv_nil wc, below_new wc _⟩) ?_
         intro w1 hW
         go_wp2_with fail
         go_loopw [9, 10] (fun c i wx => ∃ k : Nat, k ≤ d.size ∧ i = .int .i64 k ∧ Hid (NV wx c (dval ((bl d).take k))) ∧ Hid (Below wc.heap.size wc wx)) (fun _ i _ => d.size - (intOf i).toNat)
         case atStart => exact ⟨0, Nat.zero_le _, rfl, Lib.hid hW.out.1, Lib.hid hW.out.2⟩
         case round =>
          obtain ⟨k, hk, rfl, hV, hB⟩ := hrel
          clear hW
          by_cases hlt : k < d.size
          ·have hki : (k : Int) < (d.size : Int) := by omega
           have hx := bl_get d k hlt
           have hdg := DD.out _ (List.mem_of_getElem? hx)
           have E : Hid (dval ((bl d).take (k + 1)) = dval ((bl d).take k) * 10 + ((d[k]).toNat - 48)) := Lib.hid (dval_take hx)
           obtain ⟨b, hb⟩ : ∃ b, b = (d[k]).toNat - 48 := ⟨_, rfl⟩
           rw [← hb] at E
           have b1 : ((d[k]).toNat : Int) - 48 = (b : Int) := by omega
           have b2 : IntKind.u8.wrap (b : Int) = (b : Int) := by
            have e : IntKind.u8.wrap (b : Int) = (b : Int) % 256 := rfl
            rw [e]; omega
           have b3 : IntKind.u32.wrap (b : Int) = (b : Int) := by rw [u32_wrap, Nat.mod_eq_of_lt (by unfold BB; omega)]
           have b4 : (48 : Int) ≤ ((d[k]).toNat : Int) := by omega
           have b5 : ((d[k]).toNat : Int) ≤ 57 := by omega
           have C := Lib.hid (show Calls Tryz.prog 228 #[u9, .int .u32 10, .int .u32 b] wr _ from cTimes (m := 10) (c := b) (L := 151) hV.out (by decide) (Nat.lt_trans (dval_lt DD.out k (by rw [DB.out]; exact hk)) (ten_lt (by have := DL.out; omega))) (by decide) (by unfold BB; omega))
           have HLT := Lib.hid hlt
           clear hx hdg hb hk
           go_wp2_with (go_at_call 228; refine C.out.mono ?_; rintro e w3 ⟨hb3, v3, rfl, hv3, -⟩; have I := Lib.hid (And.intro (hB.out.trans (hb3.mono hB.out.size)) hv3); clear hb3 hv3)
           go_roundw
           case rel => exact ⟨k + 1, HLT.out, by go_num, by rw [E.out]; exact Lib.hid I.out.2, Lib.hid I.out.1⟩
           case measure => have := HLT.out; simp [intOf]; omega
          ·have hki : ¬ (k : Int) < (d.size : Int) := by omega
           have hkn : k = d.size := by omega
           subst hkn
           have VX : Hid (NV wr u9 (dval (bl d))) := Lib.hid (by
            have := hV.out
            rwa [← DB.out, List.take_length] at this)
           have DX : Hid (dval (bl d) < 10 ^ d.size) := Lib.hid (by
            have := dval_lt DD.out (bl d).length (Nat.le_refl _)
            rwa [List.take_length, DB.out] at this)
           have RF3 := RF2.out
           unfold numF at RF3
           rw [DB.out] at RF3
           by_cases he : 0 ≤ p - (d.size : Int)
           ·obtain ⟨n, hn⟩ : ∃ n : Nat, p - (d.size : Int) = (n : Int) := ⟨(p - (d.size : Int)).toNat, by omega⟩
            have hn2 : n ≤ 400 := by omega
            rw [hn, show ((n : Int)).toNat = n by omega, show (-(n : Int)).toNat = 0 by omega, Nat.pow_zero] at RF3
            have RF3 := Lib.hid RF3
            have hw2 : IntKind.i64.wrap (p - (d.size : Int)) = (n : Int) := by rw [hn]; exact IntWalk.i64_in _ (by omega)
            have bx : dval (bl d) * 10 ^ n < BB ^ 151 := by
             refine Nat.lt_of_lt_of_le (Nat.mul_lt_mul_of_pos_right DX.out (Nat.pow_pos (by decide))) ?_
             rw [← Nat.pow_add]
             exact Nat.le_of_lt (ten_lt (by have := DL.out; omega))
            have CV := Lib.hid (cValueP VX.out (L := 151) (by decide) bx (by omega))
            have CN := Lib.hid (fun (wx : World) va vb (h1 : NV wx va (dval (bl d) * 10 ^ n)) (h2 : NV wx vb 1) => cNearest (agP h1 h2 (L := 151) (by decide) bx (Nat.one_lt_pow (by decide) (by decide))) (by decide))
            clear hn hn2 bx he hV hlt hk
            go_wp2_with (first
             | (go_at_call 163; refine CV.out.mono ?_; rintro e w3 ⟨hb3, va, vb, rfl, h1, h2⟩; have I := Lib.hid (And.intro (hB.out.trans (hb3.mono hB.out.size)) (And.intro h1 h2)); clear hb3 h1 h2)
             | (go_at_call 275; refine (CN.out _ _ _ I.out.2.1 I.out.2.2).mono ?_; rintro e w4 ⟨rfl, hb4⟩; have J := Lib.hid (I.out.1.trans (hb4.mono I.out.1.size)); clear hb4))
            go_ret
            exact ⟨ret_int (by rw [RF3.out]), J.out⟩
           ·obtain ⟨n, hn⟩ : ∃ n : Nat, p - (d.size : Int) = -(n : Int) := ⟨(-(p - (d.size : Int))).toNat, by omega⟩
            have hn2 : n ≤ 1201 := by omega
            have hn3 : 0 < n := by omega
            rw [hn, show (-(n : Int)).toNat = 0 by omega, show (- -(n : Int)).toNat = n by omega, Nat.pow_zero, Nat.mul_one] at RF3
            have RF3 := Lib.hid RF3
            have hw2 : IntKind.i64.wrap (p - (d.size : Int)) = -(n : Int) := by rw [hn]; exact IntWalk.i64_in _ (by omega)
            have bx : dval (bl d) < BB ^ 151 := Nat.lt_trans DX.out (ten_lt (by have := DL.out; omega))
            have by10 : 10 ^ n < BB ^ 151 := ten_lt (by omega)
            have CV := Lib.hid (cValueN VX.out (L := 151) (by decide) by10 (by omega) hn3)
            have CN := Lib.hid (fun (wx : World) va vb (h1 : NV wx va (dval (bl d))) (h2 : NV wx vb (10 ^ n)) => cNearest (agP h1 h2 (L := 151) (by decide) bx by10) (Nat.pow_pos (by decide)))
            clear hn hn2 hn3 bx by10 he hV hlt hk
            go_wp2_with (first
             | (go_at_call 163; refine CV.out.mono ?_; rintro e w3 ⟨hb3, va, vb, rfl, h1, h2⟩; have I := Lib.hid (And.intro (hB.out.trans (hb3.mono hB.out.size)) (And.intro h1 h2)); clear hb3 h1 h2)
             | (go_at_call 275; refine (CN.out _ _ _ I.out.2.1 I.out.2.2).mono ?_; rintro e w4 ⟨rfl, hb4⟩; have J := Lib.hid (I.out.1.trans (hb4.mono I.out.1.size)); clear hb4))
            go_ret
            exact ⟨ret_int (by rw [RF3.out]), J.out⟩
end Go.Proofs.YtlgencbldbpbdaaGreatDoor.R
