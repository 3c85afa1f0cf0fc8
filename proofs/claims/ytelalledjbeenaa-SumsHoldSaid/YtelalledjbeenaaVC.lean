/- The walk of SumsHold: the state, the start. -/
import Derived.Test.YtelalledjbeenaaVD
namespace Go.Proofs.Ytelalledjbeenaa
open Go.RowKit Fl

/-- a step of a script -/
structure OpR where
  kind : Int
  at_ : Int
  other : Int
  x : Nat
/-- its cells -/
def OpR.cells (r : OpR) : List Value := [.int .i64 r.kind, .int .i64 r.at_, .int .i64 r.other, .float .f64 r.x]
theorem OpR.one (r : OpR) : r.cells.toArray.all (·.oneCell') = true := all_oneCell_toArray (fun v hv => by
  simp only [OpR.cells, List.mem_cons, List.not_mem_nil, or_false] at hv
  rcases hv with rfl | rfl | rfl | rfl <;> rfl)
def OpR.ok (r : OpR) : Prop := (-9223372036854775808 ≤ r.kind ∧ r.kind ≤ 9223372036854775807) ∧ (-9223372036854775808 ≤ r.at_ ∧ r.at_ ≤ 9223372036854775807) ∧ (-9223372036854775808 ≤ r.other ∧ r.other ≤ 9223372036854775807) ∧ U r.x
theorem range_keep {w w' : World} {b o B : Nat} {cs : List Value} (h : w.rangeAt b o cs) (hb : Below B w w') (hB : b < B) : w'.rangeAt b o cs := fun j v hj => (hb.cell (p := ⟨b, o + j, Option.none⟩) hB).trans (h j v hj)
/-- a script in memory -/
def OL (w : World) (A : Option Addr) (l : List OpR) : Prop := l = [] ∨ ∃ b o, A = some ⟨b, o, Option.none⟩ ∧ b < w.heap.size ∧ ∀ j r, l[j]? = some r → w.rangeAt b (o + j * 4) r.cells ∧ r.ok
theorem OL.below {w w' : World} {A : Option Addr} {l : List OpR} (h : OL w A l) (hb : Below w.heap.size w w') : OL w' A l := by
  rcases h with h | ⟨b, o, h1, h2, h3⟩
  · exact .inl h
  · exact .inr ⟨b, o, h1, Nat.lt_of_lt_of_le h2 hb.size, fun j r hj => ⟨range_keep (h3 j r hj).1 hb h2, (h3 j r hj).2⟩⟩
theorem size113 : (Try.prog.info? 113).map (·.size) = some 4 := by kernel_rfl
theorem size110 : (Try.prog.info? 110).map (·.size) = some 145 := by kernel_rfl
def Z145 : List Value := List.replicate 140 (Value.int .u32 0) ++ List.replicate 5 (Value.int .i64 0)
theorem Z145_len : Z145.length = 145 := by unfold Z145; rw [List.length_append, List.length_replicate, List.length_replicate]
theorem zero111 : Try.zeroCells111 = (Z145 ++ (Z145 ++ (Z145 ++ Z145))).toArray := by kernel_rfl
theorem Z145_word (i : Nat) (h : i < 140) : Z145[i]? = some (.int .u32 0) := by
  unfold Z145; rw [List.getElem?_append_left (by rw [List.length_replicate]; exact h), List.getElem?_replicate, if_pos h]
theorem Z145_cnt (i : Nat) (h : i < 5) : Z145[140 + i]? = some (.int .i64 0) := by
  unfold Z145; rw [List.getElem?_append_right (by rw [List.length_replicate]; omega), List.length_replicate, List.getElem?_replicate, if_pos (by omega)]
theorem four_gen {α : Type} (Z : List α) (n j i : Nat) (hl : Z.length = n) (hj : j < 4) (hi : i < n) : (Z ++ (Z ++ (Z ++ Z)))[j * n + i]? = Z[i]? := by
  rcases (by omega : j = 0 ∨ j = 1 ∨ j = 2 ∨ j = 3) with rfl | rfl | rfl | rfl
  · rw [List.getElem?_append_left (by omega), Nat.zero_mul, Nat.zero_add]
  · rw [List.getElem?_append_right (by omega), List.getElem?_append_left (by omega), show 1 * n + i - Z.length = i by omega]
  · rw [List.getElem?_append_right (by omega), List.getElem?_append_right (by omega), List.getElem?_append_left (by omega), show 2 * n + i - Z.length - Z.length = i by omega]
  · rw [List.getElem?_append_right (by omega), List.getElem?_append_right (by omega), List.getElem?_append_right (by omega), show 3 * n + i - Z.length - Z.length - Z.length = i by omega]
theorem four_get (j i : Nat) (hj : j < 4) (hi : i < 145) : (Z145 ++ (Z145 ++ (Z145 ++ Z145)))[j * 145 + i]? = Z145[i]? := four_gen Z145 145 j i Z145_len hj hi
theorem four_sums (w : World) (j : Nat) (hj : j < 4) : SumAt (w.alloc (.cells Try.zeroCells111 111)) w.heap.size (j * 145) RS.zero := by
  have hc : ∀ i, i < 145 → (w.alloc (.cells Try.zeroCells111 111)).cell? ⟨w.heap.size, j * 145 + i, Option.none⟩ = Z145[i]? := fun i hi => by
    rw [World.cell?_alloc_new w _ 111 (j * 145 + i), zero111, List.getElem?_toArray, four_get j i hj hi]
  have hf : ∀ i, (w.alloc (.cells Try.zeroCells111 111)).frozen? ⟨w.heap.size, i, Option.none⟩ = false := fun i => by simp [go_sem]
  refine ⟨fun i hi => ⟨?_, hf _⟩, fun i hi => ⟨?_, hf _⟩, ⟨?_, hf _⟩, ⟨?_, hf _⟩, ⟨?_, hf _⟩, ⟨?_, hf _⟩, ⟨?_, hf _⟩⟩
  · rw [show RS.zero.up = 0 from rfl, dg_zero, hc i (by omega), Z145_word i (by omega)]; rfl
  · rw [show RS.zero.down = 0 from rfl, dg_zero, Nat.add_assoc, hc (70 + i) (by omega), Z145_word _ (by omega)]; rfl
  · rw [hc 140 (by omega)]; exact Z145_cnt 0 (by omega)
  · rw [hc 141 (by omega)]; exact Z145_cnt 1 (by omega)
  · rw [hc 142 (by omega)]; exact Z145_cnt 2 (by omega)
  · rw [hc 143 (by omega)]; exact Z145_cnt 3 (by omega)
  · rw [hc 144 (by omega)]; exact Z145_cnt 4 (by omega)
/-- while Accs are made -/
structure Made (w wx : World) (a p k : Nat) (gs : List Nat) : Prop where
  four : Four wx w.heap.size a gs (List.replicate k AS.zero)
  len : gs.length = k
  sum : ∀ j, j < 4 → SumAt wx p (j * 145) RS.zero
  blk : w.heap.size ≤ p ∧ p < wx.heap.size ∧ p ≠ a ∧ p ∉ gs
  bel : Below w.heap.size w wx
/-- a step under way: its copy lies in block d -/
structure StepAt (w wx : World) (a p d : Nat) (gs : List Nat) (rs : List RS) (r : OpR) : Prop where
  h : Hold w wx a p gs rs
  c : wx.rangeAt d 0 r.cells
  d : w.heap.size ≤ d ∧ d < wx.heap.size ∧ d ≠ a ∧ d ≠ p ∧ d ∉ gs
theorem StepAt.below {w wx wy : World} {a p d : Nat} {gs : List Nat} {rs : List RS} {r : OpR} (h : StepAt w wx a p d gs rs r) (hb : Below wx.heap.size wx wy) : StepAt w wy a p d gs rs r :=
  ⟨h.h.below hb, range_keep h.c hb h.d.2.1, ⟨h.d.1, Nat.lt_of_lt_of_le h.d.2.1 hb.size, h.d.2.2⟩⟩
theorem StepAt.cells {w wx : World} {a p d : Nat} {gs : List Nat} {rs : List RS} {r : OpR} (h : StepAt w wx a p d gs rs r) :
    wx.cell? ⟨d, 0, Option.none⟩ = some (.int .i64 r.kind) ∧ wx.cell? ⟨d, 1, Option.none⟩ = some (.int .i64 r.at_) ∧ wx.cell? ⟨d, 2, Option.none⟩ = some (.int .i64 r.other) ∧ wx.cell? ⟨d, 3, Option.none⟩ = some (.float .f64 r.x) :=
  ⟨h.c 0 _ rfl, h.c 1 _ rfl, h.c 2 _ rfl, h.c 3 _ rfl⟩
theorem there_new4 (w : World) : (w.alloc (.cells #[.int .i64 0, .int .i64 0, .int .i64 0, .float .f64 0] 113)).there w.heap.size 0 4 := fun j hj => by
  rw [World.cell?_alloc_new w _ 113 (0 + j)]
  refine ⟨?_, by simp [go_sem]⟩
  rw [Array.getElem?_eq_getElem (by simpa using hj)]; rfl
theorem step_new {w wx : World} {a p : Nat} {gs : List Nat} {rs : List RS} (h : Hold w wx a p gs rs) (r : OpR) :
    StepAt w ((wx.alloc (.cells #[.int .i64 0, .int .i64 0, .int .i64 0, .float .f64 0] 113)).setCells wx.heap.size 0 r.cells) a p wx.heap.size gs rs r := by
  have hb := below_setCells ((Below.refl wx.heap.size wx).alloc (Nat.le_refl _) (.cells #[.int .i64 0, .int .i64 0, .int .i64 0, .float .f64 0] 113)) (Nat.le_refl _) 0 r.cells
  refine ⟨h.below hb, World.rangeAt_setCells_same _ _ _ _ (there_new4 wx), ⟨h.bel.size, by rw [size_setCells]; simp, ?_, ?_, fun hm => ?_⟩⟩
  · have := h.four.alt.2; omega
  · have := h.blk.2.1; omega
  · have := h.four.lt _ hm; omega
set_option maxRecDepth 100000 in
set_option maxHeartbeats 4000000 in
theorem walkSumsHold (A : Option Addr) (l : List OpR) (c : Nat) (w : World) (h : OL w A l) (hl : l.length < 4611686018427387904) :
    Calls Try.prog 19 #[.slice A l.length c] w fun e w' => e = .returned (.bool true) ∧ Below w.heap.size w w' := by
  have H := Lib.hid h
  have HL := Lib.hid hl
  clear h
  go_enter Try.func19, Try.ntmps19
  go_wp2_with fail
  refine (c22 _).mono ?_
  rintro e w1 ⟨rfl, hb⟩
  have B1 := Lib.hid hb
  clear hb
  go_wp2_with fail
  refine wp_gen' (fun wx => Hid (Made w wx w1.heap.size (w1.heap.size + 1) 0 [])) (Lib.hid ?_) ?_
  · have f0 := Four.start w1 w.heap.size B1.out.size 42
    have ha := fun W : World => (Below.refl W.heap.size W).alloc (Nat.le_refl _) (.cells Try.zeroCells111 111)
    have hs : (w1.alloc (.cells #[.pointer Option.none, .pointer Option.none, .pointer Option.none, .pointer Option.none] 42)).heap.size = w1.heap.size + 1 := by simp
    have sm := four_sums (w1.alloc (.cells #[.pointer Option.none, .pointer Option.none, .pointer Option.none, .pointer Option.none] 42))
    rw [hs] at sm
    exact ⟨f0.below (ha _), rfl, sm, ⟨by have := B1.out.size; omega, by simp, by omega, by simp⟩, (B1.out.alloc B1.out.size _).alloc (by rw [hs]; have := B1.out.size; omega) _⟩
  intro wc hM
  have HA := Lib.hid (show w1.heap.size + 1 ≠ w1.heap.size by omega)
  generalize w1.heap.size + 1 = p at *
  generalize w1.heap.size = a at *
  clear B1
  go_loopw [6] (fun i wx => ∃ (k : Nat) (gs : List Nat), k ≤ 4 ∧ i = .int .i64 k ∧ Hid (Made w wx a p k gs)) (fun i _ => 4 - (intOf i).toNat)
  case atStart => exact ⟨0, [], by omega, rfl, hM⟩
  case round =>
    obtain ⟨k, gs, hk, rfl, hQ⟩ := hrel
    clear hM
    by_cases hlt : k < 4
    · have hki : (k : Int) < 4 := by omega
      have HLT := Lib.hid hlt
      clear hlt
      go_wp2_with fail
      refine (c35 _).mono ?_
      rintro e w4 ⟨rfl, ha, hb, hz⟩
      have Q4 := hQ.out.four.below hb
      have hgl := hQ.out.len
      have P5 := Q4.push ha hz hQ.out.bel.size (by have := hQ.out.four.alt.2; omega) (fun hm => by have := hQ.out.four.lt _ hm; omega) (by have := HLT.out; omega)
      rw [hgl] at P5
      obtain ⟨v0, kd⟩ := Q4.cel k HLT.out
      have kf := Q4.fr k
      have k1 := P5.ptr k wr.heap.size (by rw [List.getElem?_append_right (by omega), hgl, Nat.sub_self]; rfl)
      have P6 : Hid (Made w (w4.setCell ⟨a, k, Option.none⟩ (.pointer (some ⟨wr.heap.size, 0, Option.none⟩))) a p (k + 1) (gs ++ [wr.heap.size])) := Lib.hid
        ⟨by rw [List.replicate_succ']; exact P5, by simp [hgl],
         fun j hj => ((hQ.out.sum j hj).below hb hQ.out.blk.2.1).other (b := a) ((Only.refl a w4).setCell _) (Nat.lt_of_lt_of_le hQ.out.blk.2.1 hb.size) hQ.out.blk.2.2.1,
         ⟨hQ.out.blk.1, by rw [World.size_setCell]; exact Nat.lt_of_lt_of_le hQ.out.blk.2.1 hb.size, hQ.out.blk.2.2.1, fun hm => by
           rcases List.mem_append.1 hm with h | h
           · exact hQ.out.blk.2.2.2 h
           · have := List.mem_singleton.1 h; have := hQ.out.blk.2.1; omega⟩,
         (below_trans hQ.out.bel hb).setCell hQ.out.four.alt.1 _⟩
      clear ha hb hz Q4 hgl P5
      go_wp2
      go_roundw
      case rel => exact ⟨k + 1, _, by have := HLT.out; omega, by go_num, P6⟩
      case measure => have := HLT.out; simp [intOf]; omega
    · have hki : ¬ (k : Int) < 4 := by omega
      have hk4 : k = 4 := by omega
      subst hk4
      clear hlt hk
      have HO : Hid (Hold w wr a p gs [RS.zero, RS.zero, RS.zero, RS.zero]) := Lib.hid
        ⟨hQ.out.four, rfl, fun j r hj => by
          have h4 := (List.getElem?_eq_some_iff.1 hj).1
          have e : r = RS.zero := by
            have hm := List.mem_of_getElem? hj
            simp only [List.mem_cons, List.not_mem_nil, or_false, or_self] at hm
            exact hm
          subst e
          exact hQ.out.sum j (by simpa using h4), hQ.out.blk, fun r hr => by
            simp only [List.mem_cons, List.not_mem_nil, or_false, or_self] at hr
            subst hr
            exact ⟨ROK.zero, by decide⟩, hQ.out.bel⟩
      clear hQ
      go_wp2_with fail
      go_loopw [7] (fun i wx => ∃ (k : Nat) (gs : List Nat) (rs : List RS), k ≤ l.length ∧ i = .int .i64 k ∧ Hid (Hold w wx a p gs rs)) (fun i _ => l.length - (intOf i).toNat)
      case atStart => exact ⟨0, _, _, by omega, rfl, HO⟩
      case round =>
        obtain ⟨k, gs, rs, hk, rfl, hX⟩ := hrel
        clear HO
        by_cases hlt : k < l.length
        · obtain ⟨r, hr⟩ : ∃ r, l[k]? = some r := ⟨l[k], List.getElem?_eq_getElem hlt⟩
          obtain ⟨b, o, rfl, hOb, hOr⟩ := H.out.resolve_left (fun e => by rw [e] at hlt; exact absurd hlt (Nat.not_lt_zero _))
          have HR := Lib.hid (hOr k r hr)
          have hbb := Lib.hid hOb
          have hki : (k : Int) < (l.length : Int) := by omega
          have HLT := Lib.hid hlt
          clear hr hlt hOb hOr H
          have R0 := Lib.hid (range_keep HR.out.1 hX.out.bel hbb.out)
          have E0 := Lib.hid (show (Try.prog.info? 113).map (·.size) = some r.cells.length from size113)
          have T0 := Lib.hid (there_new4 wr)
          have E2 := Lib.hid (show (Try.prog.info? 113).map (·.size) = some r.cells.toArray.size from size113)
          have S0 : Hid (StepAt w ((wr.alloc (.cells #[.int .i64 0, .int .i64 0, .int .i64 0, .float .f64 0] 113)).setCells wr.heap.size 0 r.cells) a p wr.heap.size gs rs r) := Lib.hid (step_new hX.out r)
          go_upto_region 14 with (first
            | (refine wpList_load_mid rfl 113 (.tmp 35) rfl b (o + k * 4) rfl r.cells _ R0.out Try.underlying113 rfl E0.out ?_)
            | (refine wpList_store_mid rfl 113 (.tmp 8) (.tmp 36) rfl wr.heap.size 0 r.cells.toArray rfl rfl T0.out E2.out (OpR.one r) ?_))
          clear R0 E0 T0 E2 hX
          refine wp_gen' (fun wx => Hid (StepAt w wx a p wr.heap.size gs rs r)) S0 ?_
          clear S0
          intro wa hS
          generalize wr.heap.size = d at *
          obtain ⟨k0, k1, k2, k3⟩ := hS.out.cells
          obtain ⟨κ, hκ⟩ : ∃ κ, κ = r.kind := ⟨_, rfl⟩
          rw [← hκ] at k0
          clear hκ
          go_wp2_with fail
          refine (c36four r.at_ _ HR.out.2.2.1.1 HR.out.2.2.1.2).mono ?_
          rintro e w' ⟨⟨m, hm, rfl⟩, rfl⟩
          go_wp2_with fail
          refine (c36four r.other _ HR.out.2.2.2.1.1 HR.out.2.2.2.1.2).mono ?_
          rintro e w' ⟨⟨n, hn, rfl⟩, rfl⟩
          have HMN := Lib.hid (And.intro hm hn)
          clear hm hn
          obtain ⟨g, hg⟩ : ∃ g, gs[m]? = some g := ⟨gs[m]'(by rw [hS.out.h.glen]; exact HMN.out.1), List.getElem?_eq_getElem _⟩
          obtain ⟨q, hq⟩ : ∃ q, gs[n]? = some q := ⟨gs[n]'(by rw [hS.out.h.glen]; exact HMN.out.2), List.getElem?_eq_getElem _⟩
          obtain ⟨s, hs⟩ : ∃ s, rs[m]? = some s := ⟨rs[m]'(by rw [hS.out.h.len]; exact HMN.out.1), List.getElem?_eq_getElem _⟩
          obtain ⟨t, ht⟩ : ∃ t, rs[n]? = some t := ⟨rs[n]'(by rw [hS.out.h.len]; exact HMN.out.2), List.getElem?_eq_getElem _⟩
          have HG := Lib.hid (And.intro hg (And.intro hq (And.intro hs ht)))
          have m0 : (0 : Int) ≤ (m : Int) := by omega
          have m1 : (m : Int) < 4 := by have := HMN.out.1; omega
          have n0 : (0 : Int) ≤ (n : Int) := by omega
          have n1 : (n : Int) < 4 := by have := HMN.out.2; omega
          clear hg hq hs ht k1 k2
          go_upto_block 4 with fail
          go_cut [] (fun wx => ∃ gs rs, Hid (Hold w wx a p gs rs))
          case first =>
            by_cases h1 : κ = 1
            · subst h1
              have kp := (hS.out.h.sum m s HG.out.2.2.1).m0.1
              by_cases hf : s.many < 1099511627776
              · have hfi : (s.many : Int) < 1099511627776 := by omega
                have hfd : decide (s.many < 1099511627776) = true := decide_eq_true hf
                have hfe : ¬ (1099511627776 : Int) ≤ (s.many : Int) := by omega
                have HF := Lib.hid hf
                clear hf
                go_upto_region 20 with fail
                have kg := hS.out.h.four.ptr m g HG.out.1
                have OKS := Lib.hid (hS.out.h.ok s (List.mem_of_getElem? HG.out.2.2.1))
                go_still_tail 5, (by kernel_rfl)
                go_wp2_with fail
                refine (c37 g (accOf s) r.x _ HR.out.2.2.2.2 (hS.out.h.four.acc m g (accOf s) HG.out.1 (by rw [List.getElem?_map, HG.out.2.2.1]; rfl)).drew (hS.out.h.four.lt g (List.mem_of_getElem? HG.out.1)).2.1).mono ?_
                rintro e w5 ⟨rfl, ha, ho⟩
                have O5 := Lib.hid ((Only.refl g wa).drew.trans ho)
                have A5 := Lib.hid ha
                have hgp : p ≠ g := fun e => hS.out.h.blk.2.2.2 (by rw [e]; exact List.mem_of_getElem? HG.out.1)
                have hgd : d ≠ g := fun e => hS.out.d.2.2.2.2 (by rw [e]; exact List.mem_of_getElem? HG.out.1)
                have S5 := Lib.hid ((hS.out.h.sum m s HG.out.2.2.1).other O5.out hS.out.h.blk.2.1 hgp)
                have P5 := Lib.hid (Nat.lt_of_lt_of_le hS.out.h.blk.2.1 O5.out.size)
                have k5 : w5.cell? ⟨d, 3, Option.none⟩ = some (.float .f64 r.x) := (World.cell?_of_block (w := wa) (O5.out.block d hS.out.d.2.1 hgd)).trans k3
                clear ha ho hgp hgd k0 k3 kg kp
                go_upto_region 21 with fail
                go_still_tail 4, (by kernel_rfl)
                go_wp2_with fail
                refine (c113 p (m * 145) s r.x _ HR.out.2.2.2.2 S5.out.drew P5.out (by
                  have hk := OKS.out
                  have e1 := hk.1.cold
                  have e2 := hk.1.none
                  have e3 := hk.1.high
                  have e4 := hk.1.low
                  omega)).mono ?_
                rintro e w6 ⟨rfl, ha, ho⟩
                have H6 : Hid (Hold w w6 a p gs (rs.set m (addR s r.x))) := Lib.hid (hS.out.h.upd HMN.out.1 HG.out.1 (by rw [accOf_add s r.x OKS.out.1.cold]; exact A5.out) O5.out ha ((OnlyC.refl _ _ _ w5).drew.trans ho) ⟨OKS.out.1.add r.x, by have := HF.out; show s.many + 1 ≤ _; omega⟩)
                clear ha ho S5 A5 O5
                go_wp2_with fail
                go_meet
                exact ⟨gs, _, H6⟩
              · have hfi : (1099511627776 : Int) ≤ (s.many : Int) := by omega
                clear hf
                go_wp2_with fail
                go_ret
                exact ⟨rfl, hS.out.h.bel⟩
            · have q1 : (κ == 1) = false := by rw [beq_eq_false_iff_ne]; exact h1
              clear h1
              by_cases h2 : κ = 2
              · subst h2
                clear q1
                have kp := (hS.out.h.sum m s HG.out.2.2.1).m0.1
                have kq := (hS.out.h.sum n t HG.out.2.2.2).m0.1
                have OKS := Lib.hid (hS.out.h.ok s (List.mem_of_getElem? HG.out.2.2.1))
                have OKT := Lib.hid (hS.out.h.ok t (List.mem_of_getElem? HG.out.2.2.2))
                have b1 : (s.many : Int) ≤ 1099511627776 := by have := OKS.out.2; omega
                have b2 : (t.many : Int) ≤ 1099511627776 := by have := OKT.out.2; omega
                go_upto_region 23 with fail
                have ew : IntKind.i64.wrap ((s.many : Int) + (t.many : Int)) = (s.many : Int) + (t.many : Int) := IntWalk.i64_in _ (by omega)
                go_quiet (fail)
                clear ew
                by_cases hbig : s.many + t.many ≤ 1099511627776
                · have hb1 : ¬ (1099511627776 : Int) < (s.many : Int) + (t.many : Int) := by omega
                  have HBIG := Lib.hid hbig
                  clear hbig
                  go_upto_region 25 with fail
                  clear hb1 kp kq k0 k3 b1 b2
                  refine wp_gen' (fun wx => Hid (Hold w wx a p gs rs)) (Lib.hid (hS.out.h.drew nq)) ?_
                  intro wb hS2
                  have kg := hS2.out.four.ptr m g HG.out.1
                  have kq := hS2.out.four.ptr n q HG.out.2.1
                  have C38 := Lib.hid (acc38 (hS2.out.drew 1) HG.out.1 HG.out.2.1 HG.out.2.2.1 HG.out.2.2.2)
                  go_still_tail 6, (by kernel_rfl)
                  go_wp2_with fail
                  refine C38.out.mono ?_
                  rintro e w5 ⟨rfl, ha, ho⟩
                  have O5 := Lib.hid ((Only.refl g wb).drew.trans ho)
                  have A5 := Lib.hid ha
                  have hgp : p ≠ g := fun e => hS2.out.blk.2.2.2 (by rw [e]; exact List.mem_of_getElem? HG.out.1)
                  have S5 := Lib.hid ((hS2.out.sum m s HG.out.2.2.1).other O5.out hS2.out.blk.2.1 hgp)
                  have T5 := Lib.hid ((hS2.out.sum n t HG.out.2.2.2).other O5.out hS2.out.blk.2.1 hgp)
                  have P5 := Lib.hid (Nat.lt_of_lt_of_le hS2.out.blk.2.1 O5.out.size)
                  clear ha ho hgp kg kq C38
                  go_upto_region 26 with fail
                  refine wp_region_rel 5 (fun w' => ∃ i, w' = w5.drewN i) (fun _ _ _ => True) (by kernel_rfl) (by kernel_rfl) ⟨1, rfl⟩ ?_
                  simp only [List.take_succ_cons, List.take_zero, List.drop_succ_cons, List.drop_zero]
                  refine rel_move (v := .int .i64 (m : Int)) rfl rfl ?_
                  simp only [Act.put, List.setIfInBounds_toArray, List.set_cons_succ, List.set_cons_zero]
                  refine rel_val (v := .pointer (some ⟨p, m * 145, Option.none⟩)) rfl (fun w' hw => by go_simp) ?_
                  simp only [Act.put, List.setIfInBounds_toArray, List.set_cons_succ, List.set_cons_zero]
                  refine rel_move (v := .int .i64 (n : Int)) rfl rfl ?_
                  simp only [Act.put, List.setIfInBounds_toArray, List.set_cons_succ, List.set_cons_zero]
                  refine rel_val (v := .pointer (some ⟨p, n * 145, Option.none⟩)) rfl (fun w' hw => by go_simp) ?_
                  simp only [Act.put, List.setIfInBounds_toArray, List.set_cons_succ, List.set_cons_zero]
                  refine rel_load_row p (n * 145) (SV t) _ rfl rfl (fun w' hw => by obtain ⟨i, rfl⟩ := hw; exact T5.out.range) Try.underlying110 rfl (by rw [SV_len]; exact size110) ?_
                  simp only [Act.put, List.setIfInBounds_toArray, List.set_cons_succ, List.set_cons_zero]
                  refine rel_nil ?_
                  rintro w6 ⟨i6, rfl⟩
                  have hbl := Lib.hid (Bd (Below.refl w5.heap.size w5) i6)
                  go_wp2_with fail
                  refine (c114 p (m * 145) s t _ (S5.out.below hbl.out P5.out) P5.out (OKT.out.1.small (by have := OKT.out.2; omega)).1 (OKT.out.1.small (by have := OKT.out.2; omega)).2 ⟨OKS.out.2, OKS.out.1⟩ ⟨OKT.out.2, OKT.out.1⟩).mono ?_
                  rintro e w7 ⟨rfl, ha, ho⟩
                  have H7 : Hid (Hold w w7 a p gs (rs.set m (joinR s t))) := Lib.hid (hS2.out.upd HMN.out.1 HG.out.1 (by rw [accOf_join s t OKS.out.1.cold OKT.out.1.cold]; exact A5.out) O5.out ha (((OnlyC.refl _ _ _ w5).below hbl.out P5.out (Nat.le_refl _)).trans ho) ⟨OKS.out.1.join OKT.out.1, HBIG.out⟩)
                  clear ha ho hbl S5 T5 A5 O5
                  go_wp2_with fail
                  go_meet
                  exact ⟨gs, _, H7⟩
                · have hb1 : (1099511627776 : Int) < (s.many : Int) + (t.many : Int) := by omega
                  clear hbig
                  go_wp2_with fail
                  go_ret
                  exact ⟨rfl, Bd hS.out.h.bel _⟩
              · have q2 : (κ == 2) = false := by rw [beq_eq_false_iff_ne]; exact h2
                clear h2
                by_cases h4 : κ = 4
                · subst h4
                  clear q1 q2
                  have kg := hS.out.h.four.ptr m g HG.out.1
                  go_wp2_with fail
                  refine (c38n g _).mono ?_
                  rintro e w' ⟨rfl, rfl⟩
                  go_wp2_with fail
                  go_meet
                  exact ⟨gs, rs, Lib.hid hS.out.h⟩
                · have q4 : (κ == 4) = false := by rw [beq_eq_false_iff_ne]; exact h4
                  clear h4
                  by_cases h5 : κ = 5
                  · subst h5
                    clear q1 q2 q4
                    go_wp2_with fail
                    refine (c35 _).mono ?_
                    rintro e w4 ⟨rfl, ha, hb, hz⟩
                    have H4 := hS.out.h.below hb
                    obtain ⟨v0, kd⟩ := H4.four.cel m HMN.out.1
                    have kf := H4.four.fr m
                    have kn : (w4.setCell ⟨a, m, Option.none⟩ (.pointer (some ⟨wa.heap.size, 0, Option.none⟩))).cell? ⟨a, m, Option.none⟩ = some (.pointer (some ⟨wa.heap.size, 0, Option.none⟩)) := World.cell?_setCell_same _ _ _ kd
                    have S5 : SumAt (w4.setCell ⟨a, m, Option.none⟩ (.pointer (some ⟨wa.heap.size, 0, Option.none⟩))) p (m * 145) s := (H4.sum m s HG.out.2.2.1).other (b := a) ((Only.refl a w4).setCell (.pointer (some ⟨wa.heap.size, 0, Option.none⟩))) H4.blk.2.1 H4.blk.2.2.1
                    have C5 := S5.clear
                    have T5 : Hid ((w4.setCell ⟨a, m, Option.none⟩ (.pointer (some ⟨wa.heap.size, 0, Option.none⟩))).there p (m * 145) (SV RS.zero).toArray.size) := Lib.hid (S5.thereV RS.zero)
                    have kn2 := ptr_keep C5.2 (by rw [World.size_setCell]; exact H4.four.alt.2) (fun e => hS.out.h.blk.2.2.1 e.symm) kn
                    have H6 : Hid (Hold w ((w4.setCell ⟨a, m, Option.none⟩ (.pointer (some ⟨wa.heap.size, 0, Option.none⟩))).setCells p (m * 145) (SV RS.zero)) a p (gs.set m wa.heap.size) (rs.set m RS.zero)) := Lib.hid (hS.out.h.renew HMN.out.1 rfl ha hb hz C5.1 C5.2)
                    clear ha hb hz H4 kn S5 C5 k0 k3
                    go_upto_region 31 with fail
                    clear kd kf
                    go_upto_region 32 with (first
                      | (refine wpList_build0 (o := ⟨some 102, _, _, _, _, _⟩) rfl 110 rfl (SV RS.zero).toArray built110 ?_)
                      | (refine wpList_store_mid rfl 110 (.tmp 103) (.tmp 102) rfl p (m * 145) (SV RS.zero).toArray rfl rfl T5.out (SV_size _) (SV_all _) ?_))
                    go_wp2_with fail
                    go_meet
                    exact ⟨_, _, H6⟩
                  · have q5 : (κ == 5) = false := by rw [beq_eq_false_iff_ne]; exact h5
                    clear h5
                    go_wp2_with fail
                    go_meet
                    exact ⟨gs, rs, Lib.hid hS.out.h⟩
          case rest =>
            obtain ⟨gs2, rs2, hH⟩ := hcut
            clear hS HG k0 k3
            obtain ⟨g, hg⟩ : ∃ g, gs2[m]? = some g := ⟨gs2[m]'(by rw [hH.out.glen]; exact HMN.out.1), List.getElem?_eq_getElem _⟩
            obtain ⟨q, hq⟩ : ∃ q, gs2[n]? = some q := ⟨gs2[n]'(by rw [hH.out.glen]; exact HMN.out.2), List.getElem?_eq_getElem _⟩
            obtain ⟨s, hs⟩ : ∃ s, rs2[m]? = some s := ⟨rs2[m]'(by rw [hH.out.len]; exact HMN.out.1), List.getElem?_eq_getElem _⟩
            obtain ⟨t, ht⟩ : ∃ t, rs2[n]? = some t := ⟨rs2[n]'(by rw [hH.out.len]; exact HMN.out.2), List.getElem?_eq_getElem _⟩
            have HG := Lib.hid (And.intro hg (And.intro hq (And.intro hs ht)))
            have OKS := Lib.hid (hH.out.ok s (List.mem_of_getElem? hs))
            have OKT := Lib.hid (hH.out.ok t (List.mem_of_getElem? ht))
            have kg := hH.out.four.ptr m g hg
            clear hg hq hs ht
            go_wp2_with fail
            refine (valAcc hH.out HG.out.1 HG.out.2.2.1).mono ?_
            rintro e w5 ⟨⟨v, rfl, uv, hv⟩, hb⟩
            have H5 := Lib.hid (hH.out.below hb)
            have V := Lib.hid (And.intro uv hv)
            clear hb uv hv kg hH
            have kq := H5.out.four.ptr n q HG.out.2.1
            go_wp2_with fail
            refine (valAcc H5.out HG.out.2.1 HG.out.2.2.2).mono ?_
            rintro e w6 ⟨⟨v2, rfl, uv, hv⟩, hb⟩
            have H6 := Lib.hid (H5.out.below hb)
            have V2 := Lib.hid (And.intro uv hv)
            clear hb uv hv kq H5
            go_wp2_with fail
            refine (valSum H6.out HG.out.2.2.1).mono ?_
            rintro e w7 ⟨⟨u, rfl, uv, hv⟩, hb⟩
            have H7 := Lib.hid (H6.out.below hb)
            have U1 := Lib.hid (And.intro uv hv)
            clear hb uv hv H6
            go_wp2_with fail
            refine (c24t v u _ V.out.1 U1.out.1 (by rw [V.out.2, U1.out.2])).mono ?_
            rintro e w' ⟨rfl, rfl⟩
            go_wp2_with fail
            refine (valSum H7.out HG.out.2.2.2).mono ?_
            rintro e w8 ⟨⟨u2, rfl, uv, hv⟩, hb⟩
            have H8 := Lib.hid (H7.out.below hb)
            have U2 := Lib.hid (And.intro uv hv)
            clear hb uv hv H7
            go_wp2_with fail
            refine (c24t v2 u2 _ V2.out.1 U2.out.1 (by rw [V2.out.2, U2.out.2])).mono ?_
            rintro e w' ⟨rfl, rfl⟩
            clear V U1 V2 U2
            go_wp2_with fail
            go_roundw
            case rel => exact ⟨k + 1, gs2, rs2, by have := HLT.out; omega, by go_num, H8⟩
            case measure => have := HLT.out; simp [intOf]; omega
        · have hki : ¬ (k : Int) < (l.length : Int) := by omega
          clear hlt
          go_wp2
          go_ret
          exact ⟨rfl, hX.out.bel⟩
end Go.Proofs.Ytelalledjbeenaa
