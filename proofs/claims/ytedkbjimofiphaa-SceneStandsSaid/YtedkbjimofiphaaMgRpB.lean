/- galleyref20's Paint. galleyref20's Paint of no boxes; SameItem. The plain law of two numbers. The walk of SumsTwo. Items, alike by places; galleyref20's SameItem. sameItems: alike lists. -/
import Derived.Test.YtedkbjimofiphaaMgRdD
import Derived.Test.YtedkbjimofiphaaMgRdE
import Derived.Test.YtedkbjimofiphaaMgPtC
import Derived.Test.YtedkbjimofiphaaSumK
import Derived.Test.YtedkbjimofiphaaMgPtH
namespace Go.Proofs.Ytedkbjimofiphaa
open Go.RowKit Fl
theorem flatMap_sameV {l : List Nat} {f g : Nat → List Value} (h : ∀ x ∈ l, f x = g x) : l.flatMap f = l.flatMap g := by
  induction l with
  | nil => rfl
  | cons x l ih => rw [List.flatMap_cons, List.flatMap_cons, h x (List.mem_cons_self ..), ih fun y hy => h y (List.mem_cons_of_mem _ hy)]
structure RQ (w0 w : World) (b : Nat → BX) (L : Nat → LK) (i : Nat) (MS : Nat → List Nat) (OS : Nat → Nat) (v : Value) : Prop where
  o : w.ownsRow w0.heap.size 60 23 v i ((List.range i).flatMap fun k => itCells (b k) (MS k) (OS k))
  pr : PR b L i MS OS
  bl : Below w0.heap.size w0 w
structure RM (w0 w : World) (b : Nat → BX) (L : Nat → LK) (i : Nat) (MS : Nat → List Nat) (OS : Nat → Nat) (v : Value) (mz : Nat) (mu : List Nat) : Prop where
  q : RQ w0 w b L i MS OS v
  r : w.rangeAt mz 0 (mu.map (Value.float .f64))
  t : w.there mz 0 16
  l : mz < w.heap.size
  b : w0.heap.size ≤ mz
  n : v.ownBlock ≠ some mz
section
variable {w0 w w' : World} {b : Nat → BX} {L : Nat → LK} {i : Nat} {MS : Nat → List Nat} {OS : Nat → Nat} {v v' : Value} {mz : Nat} {mu : List Nat}
theorem RQ.below (h : RQ w0 w b L i MS OS v) (hb : Below w.heap.size w w') : RQ w0 w' b L i MS OS v := ⟨owned_at h.o fun k _ hl => hb.block k hl, h.pr, h.bl.trans (hb.mono h.bl.size)⟩
theorem RM.below (h : RM w0 w b L i MS OS v mz mu) (hb : Below w.heap.size w w') : RM w0 w' b L i MS OS v mz mu := ⟨h.q.below hb, range_below h.r hb h.l, there_below h.t hb h.l, Nat.lt_of_lt_of_le h.l hb.size, h.b, h.n⟩
theorem RM.set {mf : List Nat} (h : RM w0 w b L i MS OS v mz mu) (hm : MU mf) : RM w0 (w.setCells mz 0 (mf.map (Value.float .f64))) b L i MS OS v mz mf := by
  have hl : (mf.map (Value.float .f64)).length = 16 := by rw [List.length_map]; exact hm.1
  have k1 : Keep w.heap.size (fun k => k = mz) w (w.setCells mz 0 (mf.map (Value.float .f64))) := Keep.of_only ((Only.refl mz w).setCells 0 _) (Nat.le_refl _) (fun _ => rfl)
  refine ⟨⟨owned_at h.q.o fun k hk hl => k1.block k hl (fun e => h.n (e ▸ hk)), h.q.pr, h.q.bl.trans ((k1.mono h.q.bl.size fun _ _ h => h).below _ (Nat.le_refl _) fun k hk e => ?_)⟩, World.rangeAt_setCells_same w mz 0 _ (by rw [hl]; exact h.t), World.there_setCells h.t _ _ _, Nat.lt_of_lt_of_le h.l k1.size, h.b, h.n⟩
  have hb := h.b
  have e2 : k = mz := e
  omega
theorem RQ.row (h : RQ w0 w b L i MS OS v) (zs : Array Value) (t : TypeId) (hz : zs.size = 16) (hm : MU mu) : RM w0 ((w.alloc (.cells zs t)).setCells w.heap.size 0 (mu.map (Value.float .f64))) b L i MS OS v w.heap.size mu := by
  have hl : (mu.map (Value.float .f64)).length = 16 := by rw [List.length_map]; exact hm.1
  obtain ⟨n1, n2, n3, n4⟩ := new_row w zs t (mu.map (Value.float .f64)) (by rw [hl, hz])
  exact ⟨h.below n1, n2, by rwa [hl] at n3, by omega, h.bl.size, fun e => by have := (h.o.lt _ e).2; omega⟩
theorem RQ.next {ms : List Nat} {r : Nat} (h : RQ w0 w b L i MS OS v) (hown : w'.ownsRow w0.heap.size 60 23 v' (i + 1) (((List.range i).flatMap fun k => itCells (b k) (MS k) (OS k)) ++ itCells (b i) ms r)) (hg : w.grownBy w' v.ownBlock) (hm : MU ms) (ho : U r)
    (he : ∀ j, j < 16 → mp ms j = timesP (timesP (upM MS (abO b i)) (mp (moveL (b i).x (b i).y 0))) (mp (L i).m) j) (hp : pl r = opP .mul (upO OS (abO b i)) (pl (L i).o)) :
    RQ w0 w' b L (i + 1) (fun k => if k = i then ms else MS k) (fun k => if k = i then r else OS k) v' := by
  refine ⟨?_, h.pr.next hm ho he hp, h.bl.trans ((Keep.of_grown (ex := fun _ => False) hg h.bl.size (fun k hk => (World.ownsRow.lt h.o k hk).1)).below _ (Nat.le_refl _) (fun _ _ h => h))⟩
  rw [List.range_succ, List.flatMap_append, List.flatMap_cons, List.flatMap_nil, List.append_nil]
  have e : ((List.range i).flatMap fun k => itCells (b k) (if k = i then ms else MS k) (if k = i then r else OS k)) = (List.range i).flatMap fun k => itCells (b k) (MS k) (OS k) := by
    apply flatMap_sameV
    intro k hk
    have := List.mem_range.1 hk
    show itCells (b k) (if k = i then ms else MS k) (if k = i then r else OS k) = _
    rw [if_neg (by omega), if_neg (by omega)]
  rw [e, if_pos rfl, if_pos rfl]
  exact hown
theorem RQ.rec_ {g c k : Nat} (h : RQ w0 w b L i MS OS (.slice (some ⟨g, 0, none⟩) i c)) (hk : k < i) : w.rangeAt g (k * 23) (itCells (b k) (MS k) (OS k)) :=
  owned_rec (f := fun k => itCells (b k) (MS k) (OS k)) (fun k hk => it_len (h.pr.mu k hk)) h.o hk
end
def BX.rc (b : BX) : List Value := [.float .f64 b.x, .float .f64 b.y, .float .f64 b.w, .float .f64 b.h]
theorem rc_range {w : World} {g o : Nat} {b : BX} (h : w.rangeAt g o b.cells) : w.rangeAt g (o + 3) b.rc := fun j v hj => by
  have := h (3 + j) v (by
    match j, hj with
    | 0, hj => exact hj
    | 1, hj => exact hj
    | 2, hj => exact hj
    | 3, hj => exact hj)
  rwa [← Nat.add_assoc] at this
theorem info33 : (Try.prog.info? 33).map (·.size) = some 4 := by kernel_rfl
theorem rc_one (b : BX) : b.rc.toArray.all (·.oneCell') = true := all_oneCell_toArray fun u hu => by
  unfold BX.rc at hu
  simp only [List.mem_cons, List.not_mem_nil, or_false] at hu
  rcases hu with rfl | rfl | rfl | rfl <;> rfl
set_option maxRecDepth 100000 in
set_option maxHeartbeats 2000000 in
theorem c9 (w : World) (gb gl n cb cl : Nat) (b : Nat → BX) (L : Nat → LK) (hb : ∀ k, k < n → (b k).OK) (hL : ∀ k, k < n → (L k).OK) (hn : n ≤ 1048576) (h0 : 0 < n) (rb : ∀ k, k < n → w.rangeAt gb (k * 7) (b k).cells) (rl : ∀ k, k < n → w.rangeAt gl (k * 54) (L k).cells) (lb : gb < w.heap.size) (ll : gl < w.heap.size) :
    Calls Try.prog 9 #[.slice (some ⟨gb, 0, none⟩) n cb, .slice (some ⟨gl, 0, none⟩) n cl] w
      fun e w' => ∃ ov MS OS, e = .returned ov ∧ PR b L n MS OS ∧ w'.ownsRow w.heap.size 60 23 ov n ((whole n (abO b) (kf (lvO L))).flatMap fun k => itCells (b k) (MS k) (OS k)) ∧ Below w.heap.size w w' := by
  have HI := Lib.hid (And.intro hb (And.intro hL (And.intro rb (And.intro rl (And.intro lb ll)))))
  have Q0 := Lib.hid (show RQ w w b L 0 (fun _ => []) (fun _ => 0) (.slice none 0 0) from ⟨World.ownsRow_nil .., ⟨fun i hi => absurd hi (Nat.not_lt_zero _), fun i hi => absurd hi (Nat.not_lt_zero _), fun i hi => absurd hi (Nat.not_lt_zero _), fun i hi => absurd hi (Nat.not_lt_zero _)⟩, Below.refl _ _⟩)
  clear hb hL rb rl lb ll
  go_enter Try.func9, Try.ntmps9
  go_wp2_with fail
  go_loopw [5, 6, 71] (fun v ii st wx => ∃ (i : Nat) (MS : Nat → List Nat) (OS : Nat → Nat), ii = .int .i64 (i : Int) ∧ i ≤ n ∧ Hid (RQ w wx b L i MS OS v) ∧ Hid (∀ g, st = .slice (some ⟨g, 0, none⟩) 1 1 → g < wx.heap.size)) (fun _ ii _ _ => n - (intOf ii).toNat)
  case atStart => exact ⟨0, _, _, rfl, Nat.zero_le _, Q0, Lib.hid fun g h => by cases h⟩
  case round =>
    obtain ⟨i, MS, OS, rfl, hin, hQ, hS⟩ := hrel
    obtain ⟨pv, cv, rfl, -⟩ := owned_slice hQ.out.o
    by_cases hlt : i < n
    · have hii : (i : Int) < (n : Int) := by omega
      have di : decide ((i : Int) < (n : Int)) = true := decide_eq_true hii
      have HK := k88 wr
      obtain ⟨m0, em0, M0⟩ : ∃ m0, m0 = idL ∧ MU m0 := ⟨_, rfl, idL_MU⟩
      rw [← em0] at HK
      have EM0 := Lib.hid (And.intro em0 M0)
      have S0 : (m0.map (Value.float .f64)).toArray.size = 16 := by rw [List.size_toArray, List.length_map]; exact M0.1
      clear em0 M0
      go_wp2_with fail
      go_at_call 12
      refine HK.mono fun e w5 ⟨he, b5⟩ => ?_
      subst he
      have Q5 := hQ.out.below b5
      have HS5 := Lib.hid (fun g h => Nat.lt_of_lt_of_le (hS.out g h) b5.size)
      have M6 := Lib.hid (Q5.row #[.float .f64 0, .float .f64 0, .float .f64 0, .float .f64 0, .float .f64 0, .float .f64 0, .float .f64 0, .float .f64 0, .float .f64 0, .float .f64 0, .float .f64 0, .float .f64 0, .float .f64 0, .float .f64 0, .float .f64 0, .float .f64 0] 44 rfl EM0.out.2)
      have hz6 := (new_row w5 #[.float .f64 0, .float .f64 0, .float .f64 0, .float .f64 0, .float .f64 0, .float .f64 0, .float .f64 0, .float .f64 0, .float .f64 0, .float .f64 0, .float .f64 0, .float .f64 0, .float .f64 0, .float .f64 0, .float .f64 0, .float .f64 0] 44 (m0.map (Value.float .f64)) (by rw [List.length_map, EM0.out.2.1]; rfl)).2.2.2
      have HZ6 := Lib.hid hz6
      have TM := Lib.hid (there_new w5 #[.float .f64 0, .float .f64 0, .float .f64 0, .float .f64 0, .float .f64 0, .float .f64 0, .float .f64 0, .float .f64 0, .float .f64 0, .float .f64 0, .float .f64 0, .float .f64 0, .float .f64 0, .float .f64 0, .float .f64 0, .float .f64 0] 44 16 rfl)
      have TM := Lib.hid (show (w5.alloc (.cells #[.float .f64 0, .float .f64 0, .float .f64 0, .float .f64 0, .float .f64 0, .float .f64 0, .float .f64 0, .float .f64 0, .float .f64 0, .float .f64 0, .float .f64 0, .float .f64 0, .float .f64 0, .float .f64 0, .float .f64 0, .float .f64 0] 44)).there w5.heap.size 0 (m0.map (Value.float .f64)).toArray.size by rw [S0]; exact TM.out)
      have E2 := Lib.hid (size80A m0 EM0.out.2.1)
      clear b5 HK S0 Q5 hz6
      go_upto_region 6 with (first
        | (refine wpList_store_mid rfl 44 (.tmp 7) (.tmp 17) rfl w5.heap.size 0 (m0.map (Value.float .f64)).toArray rfl rfl TM.out E2.out (one16 m0) ?_))
      have HS6 := Lib.hid (show ∀ g, u71 = .slice (some ⟨g, 0, none⟩) 1 1 → g < ((w5.alloc (.cells #[.float .f64 0, .float .f64 0, .float .f64 0, .float .f64 0, .float .f64 0, .float .f64 0, .float .f64 0, .float .f64 0, .float .f64 0, .float .f64 0, .float .f64 0, .float .f64 0, .float .f64 0, .float .f64 0, .float .f64 0, .float .f64 0] 44)).setCells w5.heap.size 0 (m0.map (Value.float .f64))).heap.size from fun g h => by have := HS5.out g h; have := HZ6.out; omega)
      generalize (w5.alloc (.cells #[.float .f64 0, .float .f64 0, .float .f64 0, .float .f64 0, .float .f64 0, .float .f64 0, .float .f64 0, .float .f64 0, .float .f64 0, .float .f64 0, .float .f64 0, .float .f64 0, .float .f64 0, .float .f64 0, .float .f64 0, .float .f64 0] 44)).setCells w5.heap.size 0 (m0.map (Value.float .f64)) = w6 at *
      generalize w5.heap.size = mz at *
      clear TM E2 HS5 HZ6
      have BR := Lib.hid (range_below (HI.out.2.2.1 i hlt) M6.out.q.bl HI.out.2.2.2.2.1)
      have CA := Lib.hid (c27r w6 gb n cb i b BR.out hlt)
      go_wp2_with fail
      go_at_call 27
      refine CA.out.mono fun e w7 ⟨he, hw7⟩ => ?_
      subst he hw7
      clear CA BR
      obtain ⟨av, hav⟩ : ∃ av, av = abV b i := ⟨_, rfl⟩
      rw [← hav]
      have HAV := Lib.hid hav
      clear hav
      go_upto_if 22 with fail
      go_cut [8, 71] (fun o st wx => ∃ (ow : Nat) (mu : List Nat), o = .float .f64 ow ∧ Hid (U ow ∧ pl ow = upO OS (abO b i) ∧ MU mu ∧ ∀ j, j < 16 → mp mu j = upM MS (abO b i) j) ∧ Hid (RM w wx b L i MS OS (.slice pv i cv) mz mu) ∧ Hid (∀ g, st = .slice (some ⟨g, 0, none⟩) 1 1 → g < wx.heap.size))
      case first =>
        cases hab : abO b i with
        | none =>
          obtain rfl : av = -1 := by rw [HAV.out]; unfold abV; rw [hab]
          have UO := Lib.hid (show U 4607182418800017408 ∧ pl 4607182418800017408 = upO OS (abO b i) ∧ MU m0 ∧ ∀ j, j < 16 → mp m0 j = upM MS (abO b i) j by
            rw [EM0.out.1, hab]; exact ⟨by unfold U; decide, rfl, idL_MU, fun _ _ => rfl⟩)
          clear hab
          have d0 : decide ((0 : Int) ≤ -1) = false := by decide
          go_wp2
          go_meet
          exact ⟨_, m0, rfl, UO, M6, HS6⟩
        | some k =>
          obtain rfl : av = (k : Int) := by rw [HAV.out]; unfold abV; rw [hab]
          have hki : k < i := abO_lt hab
          obtain ⟨gi, rfl, -, -⟩ := owned_some M6.out.q.o (by omega)
          have UO := Lib.hid (show U (OS k) ∧ pl (OS k) = upO OS (abO b i) ∧ MU (MS k) ∧ ∀ j, j < 16 → mp (MS k) j = upM MS (abO b i) j by rw [hab]; exact ⟨M6.out.q.pr.ou k hki, rfl, M6.out.q.pr.mu k hki, fun _ _ => rfl⟩)
          have RM1 := Lib.hid (range_mat (M6.out.q.rec_ hki))
          have M8 := Lib.hid (M6.out.set UO.out.2.2.1)
          have hki2 : (k : Int) < (i : Int) := by omega
          have S1 := Lib.hid (size80L (MS k) UO.out.2.2.1.1)
          have S2 := Lib.hid (size80A (MS k) UO.out.2.2.1.1)
          have T7 := Lib.hid (show w7.there mz 0 ((MS k).map (Value.float .f64)).toArray.size by rw [List.size_toArray, List.length_map, UO.out.2.2.1.1]; exact M6.out.t)
          have HS8 := Lib.hid (show ∀ g, u71 = .slice (some ⟨g, 0, none⟩) 1 1 → g < (w7.setCells mz 0 ((MS k).map (Value.float .f64))).heap.size from fun g h => by rw [size_setCells]; exact HS6.out g h)
          clear hab
          go_upto_region 10 with (first
            | (refine wpList_load_mid rfl 44 (.tmp 26) rfl gi (k * 23 + 6) rfl ((MS k).map (Value.float .f64)) _ RM1.out Try.underlying44 rfl S1.out ?_)
            | (refine wpList_store_mid rfl 44 (.tmp 7) (.tmp 27) rfl mz 0 ((MS k).map (Value.float .f64)).toArray rfl rfl T7.out S2.out (one16 (MS k)) ?_))
          generalize w7.setCells mz 0 ((MS k).map (Value.float .f64)) = w8 at *
          have ck := cell_op (M8.out.q.pr.mu k hki) (M8.out.q.rec_ hki)
          go_wp2
          go_meet
          exact ⟨OS k, MS k, rfl, UO, M8, HS8⟩
      case rest =>
      obtain ⟨ow, mu, rfl, hU, hM, hS7⟩ := hcut
      clear M6 EM0
      have RCR := Lib.hid (rc_range (range_below (HI.out.2.2.1 i hlt) hM.out.q.bl HI.out.2.2.2.2.1))
      have S4 := Lib.hid (show (Try.prog.info? 33).map (·.size) = some (b i).rc.length from info33)
      have OB := Lib.hid (rc_one (b i))
      have TB := Lib.hid (there_new wc #[.float .f64 0, .float .f64 0, .float .f64 0, .float .f64 0] 33 4 rfl)
      have NB := Lib.hid (new_row wc #[.float .f64 0, .float .f64 0, .float .f64 0, .float .f64 0] 33 (b i).rc rfl)
      go_upto_region 12 with (first
        | (refine wpList_load_mid rfl 33 (.tmp 36) rfl gb (i * 7 + 3) rfl (b i).rc _ RCR.out Try.underlying33 rfl S4.out ?_)
        | (refine wpList_store_mid rfl 33 (.tmp 10) (.tmp 37) rfl wc.heap.size 0 (b i).rc.toArray rfl rfl TB.out info33 OB.out ?_))
      obtain ⟨B8, r8, -, z8⟩ := NB.out
      have M8 := hM.out.below B8
      have hmr := hM.out.l
      have HS8 := fun g h => Nat.lt_of_lt_of_le (hS7.out g h) B8.size
      clear NB TB OB S4 RCR
      generalize (wc.alloc (.cells #[.float .f64 0, .float .f64 0, .float .f64 0, .float .f64 0] 33)).setCells wc.heap.size 0 (b i).rc = w8 at *
      generalize wc.heap.size = rz at *
      have hrz : rz < w8.heap.size := by omega
      have lb8 := Nat.lt_of_lt_of_le HI.out.2.2.2.2.1 M8.q.bl.size
      have ll8 := Nat.lt_of_lt_of_le HI.out.2.2.2.2.2 M8.q.bl.size
      have rl8 := range_below (HI.out.2.2.2.1 i hlt) M8.q.bl HI.out.2.2.2.2.2
      refine rreg12 w8 rz gl n cl i mz (b i).x (b i).y mu (L i) _ _ _ _ _ _ _ _ _ _ _ _ _ _ _ _ _ _ _ _ _ _ _ _ _ _ _ _ _ _ _ _ _ _ _ _ _ _ _ _ _ _ _ _ _ _ _ _ _ _ _ _ _ _ _ _ _ _ _ _ _ _ _ _ _ _ _ _ _ _ _ _ _ hU.out.2.2.1 (HI.out.2.1 i hlt) (HI.out.1 i hlt).x (HI.out.1 i hlt).y M8.r rl8 hlt (r8 0 _ rfl) (r8 1 _ rfl) M8.t hrz ll8 M8.l (fun v38 v39 v40 v41 v42 v43 v44 v45 v46 v47 v48 v49 v50 w10 mf hb hmu hme => ?_)
      have M10 := M8.below hb
      have M11 := M10.set hmu
      have r10 := range_below r8 hb hrz
      have r11 : (w10.setCells mz 0 (mf.map (Value.float .f64))).rangeAt rz 0 (b i).rc := range_keep r10 (Keep.of_only ((Only.refl mz w10).setCells 0 _) (Nat.le_refl _) (fun _ => rfl) : Keep w10.heap.size (fun k => k = mz) w10 _) (Nat.lt_of_lt_of_le hrz hb.size) (fun e => by omega)
      have hrz11 : rz < (w10.setCells mz 0 (mf.map (Value.float .f64))).heap.size := by rw [size_setCells]; exact Nat.lt_of_lt_of_le hrz hb.size
      have HS11 : ∀ g, u71 = .slice (some ⟨g, 0, none⟩) 1 1 → g < (w10.setCells mz 0 (mf.map (Value.float .f64))).heap.size := fun g h => by rw [size_setCells]; exact Nat.lt_of_lt_of_le (HS8 g h) hb.size
      generalize w10.setCells mz 0 (mf.map (Value.float .f64)) = w11 at *
      have HM := Lib.hid (And.intro M11 (And.intro r11 (And.intro hrz11 HS11)))
      have HMF := Lib.hid (show MU mf ∧ ∀ j, j < 16 → mp mf j = timesP (timesP (upM MS (abO b i)) (mp (moveL (b i).x (b i).y 0))) (mp (L i).m) j from ⟨hmu, fun j hj => (hme j hj).trans (timesP_congr (fun t ht => timesP_congr hU.out.2.2.2 (fun _ _ => rfl) ht) (fun _ _ => rfl) hj)⟩)
      clear M8 M10 M11 r8 r10 r11 hrz hrz11 HS8 HS11 hb hme hmu lb8 ll8 rl8 B8 z8 hmr
      go_upto_region 13 with fail
      refine rreg13 w11 rz gb gl n cb cl i mz ow w.heap.size i cv pv _ mf (b i) (L i) _ _ _ _ _ _ _ _ _ _ _ _ _ _ _ _ _ _ _ _ _ _ _ _ _ _ _ _ _ _ _ _ _ _ _ _ _ _ _ _ _ _ _ _ _ _ _ _ _ _ _ _ _ _ _ _ _ _ _ _ _ _ _ _ _ _ _ _ _ _ HM.out.2.2.2 HMF.out.1 (HI.out.2.1 i hlt) hU.out.1 HM.out.1.r (range_below (HI.out.2.2.2.1 i hlt) HM.out.1.q.bl HI.out.2.2.2.2.2) (range_below (HI.out.2.2.1 i hlt) HM.out.1.q.bl HI.out.2.2.2.2.1) hlt
        (HM.out.2.1 2 _ rfl) (HM.out.2.1 3 _ rfl) HM.out.2.2.1 (Nat.lt_of_lt_of_le HI.out.2.2.2.2.2 HM.out.1.q.bl.size) HM.out.1.l (Nat.lt_of_lt_of_le HI.out.2.2.2.2.1 HM.out.1.q.bl.size) HM.out.1.q.o HM.out.1.q.bl.size (by omega) (fun v51 v52 v53 v54 v55 v56 v57 v58 v59 v60 v61 v62 v63 v64 v65 v66 v67 v68 v69 v70 v72 v' w12 w' r g hbw ur hr hown hgrow hg => ?_)
      have FIN := Lib.hid ((HM.out.1.q.below hbw).next hown hgrow HMF.out.1 ur HMF.out.2 (by rw [hr, hU.out.2.1]))
      have HSN := Lib.hid (show ∀ g2, Value.slice (some ⟨g, 0, none⟩) 1 1 = .slice (some ⟨g2, 0, none⟩) 1 1 → g2 < w'.heap.size from fun g2 e => by injection e with e; injection e with e; injection e with e; omega)
      clear hbw ur hr hown hgrow hg
      go_wp2_with fail
      go_roundw
      case rel => exact ⟨i + 1, _, _, by go_num, by omega, FIN, HSN⟩
      case measure => simp [intOf]; omega
    · have e : i = n := by omega
      subst e
      obtain ⟨gi, rfl, -, lgi⟩ := owned_some hQ.out.o h0
      have PRi := hQ.out.pr
      have HC := Lib.hid (c30b gb gl gi i cb cl cv b L (itF i b MS OS) HI.out.2.1 (fun k => by
          unfold itF; split
          · rename_i hk; exact it_len (PRi.mu k hk)
          · exact it_len ⟨rfl, fun x hx => by rw [List.eq_of_mem_replicate hx]; unfold U; decide⟩) (fun k => by unfold itF; split <;> exact it_one _ _ _) (by omega) (i + 1) wr none
        ⟨fun k hk => range_below (HI.out.2.2.1 k hk) hQ.out.bl HI.out.2.2.2.2.1, fun k hk => range_below (HI.out.2.2.2.1 k hk) hQ.out.bl HI.out.2.2.2.2.2, fun k hk => by unfold itF; rw [if_pos hk]; exact hQ.out.rec_ hk,
          Nat.lt_of_lt_of_le HI.out.2.2.2.2.1 hQ.out.bl.size, Nat.lt_of_lt_of_le HI.out.2.2.2.2.2 hQ.out.bl.size, lgi⟩ (by show (i : Int) - (-1) ≤ _; omega) (fun k hk => by cases hk))
      have HC := Lib.hid (show Calls Try.prog 30 #[.slice (some ⟨gb, 0, none⟩) i cb, .slice (some ⟨gl, 0, none⟩) i cl, .slice (some ⟨gi, 0, none⟩) i cv, .int .i64 (-1)] wr _ from HC.out)
      have HQ := Lib.hid (And.intro hQ.out.pr hQ.out.bl)
      clear PRi lgi hQ
      go_wp2_with fail
      go_at_call 30
      refine HC.out.mono fun e w' ⟨ov, he, ho, hb⟩ => ?_
      subst he
      have FIN := Lib.hid (show w'.ownsRow w.heap.size 60 23 ov i ((whole i (abO b) (kf (lvO L))).flatMap fun k => itCells (b k) (MS k) (OS k)) ∧ Below w.heap.size w w' from by
        refine ⟨?_, HQ.out.2.trans (hb.mono HQ.out.2.size)⟩
        have H : ∀ j k, j < i → abO b j = some k → k < j := fun j k _ h => abO_lt h
        have e1 : (KS b L none i).flatMap (tr i (abO b) (kf (lvO L))) = whole i (abO b) (kf (lvO L)) := rfl
        have ho := owned_rebase (base' := w.heap.size) ho (fun g hg => by have := (ho.lt g hg).1; have := HQ.out.2.size; omega)
        rw [e1, whole_length H, ← List.flatMap_assoc, e1, itF_flat (fun x hx => (mem_whole H).1 hx)] at ho
        exact ho)
      clear ho hb
      go_wp2
      go_ret
      exact ⟨ov, MS, OS, rfl, HQ.out.1, FIN.out⟩
end Go.Proofs.Ytedkbjimofiphaa

namespace Go.Proofs.Ytedkbjimofiphaa
open Go.RowKit Fl
end Go.Proofs.Ytedkbjimofiphaa

namespace Go.Proofs.Ytedkbjimofiphaa
open Go.RowKit Fl
end Go.Proofs.Ytedkbjimofiphaa

namespace Go.Proofs.Ytedkbjimofiphaa
open Go.RowKit Fl
theorem c24t (x y : Nat) (w : World) (hx : U x) (hy : U y) (h : pl x = pl y) : Calls Try.prog 22 #[.float .f64 x, .float .f64 y] w fun e w' => e = .returned (.bool true) ∧ w = w' :=
  (c24 x y w hx hy).mono fun e w' ⟨he, hw⟩ => ⟨by rw [he, h, beq_self_eq_true], hw⟩
end Go.Proofs.Ytedkbjimofiphaa

namespace Go.Proofs.Ytedkbjimofiphaa
open Go.RowKit Fl
structure ITM where
  sl : Nat
  gn : Nat
  x : Nat
  y : Nat
  w : Nat
  h : Nat
  m : List Nat
  o : Nat
def ITM.cells (t : ITM) : List Value := [.int .u32 (t.sl : Int), .int .u32 (t.gn : Int), .float .f64 t.x, .float .f64 t.y, .float .f64 t.w, .float .f64 t.h] ++ (t.m.map (Value.float .f64) ++ [.float .f64 t.o])
structure ITM.OK (t : ITM) : Prop where
  x : U t.x
  y : U t.y
  w : U t.w
  h : U t.h
  m : MU t.m
  o : U t.o
structure ITM.Sim (a b : ITM) : Prop where
  sl : a.sl = b.sl
  gn : a.gn = b.gn
  x : pl a.x = pl b.x
  y : pl a.y = pl b.y
  w : pl a.w = pl b.w
  h : pl a.h = pl b.h
  m : ∀ j, j < 16 → mp a.m j = mp b.m j
  o : pl a.o = pl b.o
theorem ITM.len {t : ITM} (h : t.OK) : t.cells.length = 23 := by
  unfold ITM.cells
  rw [List.length_append, List.length_append, List.length_map, h.m.1]; rfl
theorem ITM.one (t : ITM) : ∀ u ∈ t.cells, u.oneCell' = true := fun u hu => by
  unfold ITM.cells at hu
  rcases List.mem_append.1 hu with h | h
  · simp only [List.mem_cons, List.not_mem_nil, or_false] at h
    rcases h with rfl | rfl | rfl | rfl | rfl | rfl <;> rfl
  · rcases List.mem_append.1 h with h | h
    · obtain ⟨_, _, rfl⟩ := List.mem_map.1 h; rfl
    · rw [List.mem_singleton.1 h]; rfl
def ITM.nd (t : ITM) : List Value := [.int .u32 (t.sl : Int), .int .u32 (t.gn : Int)]
def ITM.rc (t : ITM) : List Value := [.float .f64 t.x, .float .f64 t.y, .float .f64 t.w, .float .f64 t.h]
section
variable {w : World} {g o : Nat} {t : ITM}
theorem ITM.rnd (h : w.rangeAt g o t.cells) : w.rangeAt g o t.nd := fun j v hj => h j v (by
  match j, hj with
  | 0, hj => exact hj
  | 1, hj => exact hj)
theorem ITM.rrc (h : w.rangeAt g o t.cells) : w.rangeAt g (o + 2) t.rc := fun j v hj => by
  have := h (2 + j) v (by
    match j, hj with
    | 0, hj => exact hj
    | 1, hj => exact hj
    | 2, hj => exact hj
    | 3, hj => exact hj)
  rwa [← Nat.add_assoc] at this
theorem ITM.rm (h : w.rangeAt g o t.cells) : w.rangeAt g (o + 6) (t.m.map (Value.float .f64)) := fun j v hj => by
  have hl := (List.getElem?_eq_some_iff.1 hj).1
  have := h (6 + j) v (by unfold ITM.cells; rw [List.getElem?_append_right (by simp), show 6 + j - [Value.int IntKind.u32 (t.sl : Int), .int .u32 (t.gn : Int), .float .f64 t.x, .float .f64 t.y, .float .f64 t.w, .float .f64 t.h].length = j by simp, List.getElem?_append_left hl]; exact hj)
  rwa [← Nat.add_assoc] at this
theorem ITM.co (hm : MU t.m) (h : w.rangeAt g o t.cells) : w.cell? ⟨g, o + 22, none⟩ = some (.float .f64 t.o) := by
  refine h 22 _ ?_
  unfold ITM.cells
  rw [List.getElem?_append_right (by simp), show 22 - [Value.int IntKind.u32 (t.sl : Int), .int .u32 (t.gn : Int), .float .f64 t.x, .float .f64 t.y, .float .f64 t.w, .float .f64 t.h].length = 16 by simp, List.getElem?_append_right (by rw [List.length_map, hm.1]; omega), List.length_map, hm.1]
  rfl
end
set_option maxRecDepth 100000 in
set_option maxHeartbeats 2000000 in
theorem c31 (w : World) (a b : ITM) (ha : a.OK) (hb : b.OK) (h : a.Sim b) : Calls Try.prog 31 #[.agg a.cells.toArray, .agg b.cells.toArray] w fun e w' => e = .returned (.bool true) ∧ Below w.heap.size w w' := by
  obtain ⟨W, hW⟩ : ∃ W, W = (w.alloc (.cells a.cells.toArray 60)).alloc (.cells b.cells.toArray 60) := ⟨_, rfl⟩
  have S0 : W.rangeAt w.heap.size 0 a.cells := by rw [hW]; exact World.rangeAt_alloc (range_new w _ 60) _
  have S1 : W.rangeAt (w.heap.size + 1) 0 b.cells := by
    have := range_new (w.alloc (.cells a.cells.toArray 60)) b.cells 60
    rw [World.size_alloc] at this
    rw [hW]; exact this
  have S2 := Lib.hid (show Below w.heap.size w W from by rw [hW]; exact ((Below.refl _ _).alloc (Nat.le_refl _) _).alloc (by simp) _)
  have L0 : w.heap.size + 1 < W.heap.size := by rw [hW]; simp
  have S := Lib.hid (show ∀ w', Below W.heap.size W w' → (w'.rangeAt w.heap.size 0 a.cells ∧ w'.rangeAt (w.heap.size + 1) 0 b.cells) from fun w' hb => ⟨range_below S0 hb (by omega), range_below S1 hb L0⟩)
  have HA := Lib.hid (And.intro ha (And.intro hb h))
  have HW := Lib.hid hW
  have RA := Lib.hid (ITM.rrc S0)
  have RB := Lib.hid (ITM.rrc S1)
  have Z4 := Lib.hid (show (Try.prog.info? 33).map (·.size) = some a.rc.length from info33)
  have Z4b := Lib.hid (show (Try.prog.info? 33).map (·.size) = some b.rc.length from info33)
  clear ha hb h S0 S1 L0 hW
  go_enter Try.func31, Try.ntmps31
  go_upto_region 1 with fail
  rw [← HW.out]
  clear HW
  go_wp2_with (first
    | (refine wpList_load_mid rfl 33 (.tmp 7) rfl w.heap.size 2 rfl a.rc _ RA.out Try.underlying33 rfl Z4.out ?_)
    | (refine wpList_load_mid rfl 33 (.tmp 9) rfl (w.heap.size + 1) 2 rfl b.rc _ RB.out Try.underlying33 rfl Z4b.out ?_))
  go_at_call 11
  refine (show Calls Try.prog 11 #[.agg a.rc.toArray, .agg b.rc.toArray] W _ from k54 (RV.self HA.out.1.x) ⟨HA.out.2.1.x, HA.out.2.2.x.symm⟩ (RV.self HA.out.1.y) ⟨HA.out.2.1.y, HA.out.2.2.y.symm⟩ (RV.self HA.out.1.w) ⟨HA.out.2.1.w, HA.out.2.2.w.symm⟩ (RV.self HA.out.1.h) ⟨HA.out.2.1.h, HA.out.2.2.h.symm⟩ W).mono fun e w1 ⟨he, b1⟩ => ?_
  subst he
  have B1 := Lib.hid b1
  have MA := Lib.hid (ITM.rm (S.out w1 b1).1)
  have MB := Lib.hid (ITM.rm (S.out w1 b1).2)
  have Z16a := Lib.hid (size80L a.m HA.out.1.m.1)
  have Z16b := Lib.hid (size80L b.m HA.out.2.1.m.1)
  clear b1 RA RB Z4 Z4b
  go_wp2_with (first
    | (refine wpList_load_mid rfl 44 (.tmp 12) rfl w.heap.size 6 rfl (a.m.map (Value.float .f64)) _ MA.out Try.underlying44 rfl Z16a.out ?_)
    | (refine wpList_load_mid rfl 44 (.tmp 14) rfl (w.heap.size + 1) 6 rfl (b.m.map (Value.float .f64)) _ MB.out Try.underlying44 rfl Z16b.out ?_))
  go_at_call 54
  refine (k81 HA.out.1.m HA.out.2.1.m HA.out.2.2.m w1).mono fun e w2 ⟨he, b2⟩ => ?_
  subst he
  have b12 := B1.out.trans (b2.mono B1.out.size)
  have B2 := Lib.hid b12
  have NA := Lib.hid (ITM.rnd (S.out w2 b12).1)
  have NB := Lib.hid (ITM.rnd (S.out w2 b12).2)
  have ca := ITM.co HA.out.1.m (S.out w2 b12).1
  have cb := ITM.co HA.out.2.1.m (S.out w2 b12).2
  rw [Nat.zero_add] at ca cb
  have eqn : ∀ w, (binOp .eql 30 (.agg a.nd.toArray) (.agg b.nd.toArray)).run Try.prog w = .ok (.bool true) w := fun w => by
    have h := eq30 w b.sl b.gn b.sl b.gn
    rw [show (((b.sl : Nat) : Int) == (b.sl : Int) && ((b.gn : Nat) : Int) == (b.gn : Int)) = true by simp] at h
    have e : a.nd = b.nd := by unfold ITM.nd; rw [HA.out.2.2.sl, HA.out.2.2.gn]
    rw [e]
    exact h
  have CS := Lib.hid (c24t a.o b.o w2 HA.out.1.o HA.out.2.1.o HA.out.2.2.o)
  clear b2 b12 MA MB Z16a Z16b
  have sza := Lib.hid (show (Try.prog.info? 30).map (·.size) = some a.nd.length from sz30)
  have szb := Lib.hid (show (Try.prog.info? 30).map (·.size) = some b.nd.length from sz30)
  go_wp2_with (first
    | (refine wpList_load_mid rfl 30 (.tmp 17) rfl w.heap.size 0 rfl a.nd _ NA.out Try.underlying30 rfl sza.out ?_)
    | (refine wpList_load_mid rfl 30 (.tmp 19) rfl (w.heap.size + 1) 0 rfl b.nd _ NB.out Try.underlying30 rfl szb.out ?_))
  go_at_call 22
  refine CS.out.mono fun e w3 ⟨he, hw⟩ => ?_
  subst he hw
  go_wp2
  go_ret
  exact ⟨rfl, S2.out.trans (B2.out.mono S2.out.size)⟩
end Go.Proofs.Ytedkbjimofiphaa

namespace Go.Proofs.Ytedkbjimofiphaa
open Go.RowKit Fl
theorem sz60 {t : ITM} (h : t.OK) : (Try.prog.info? 60).map (·.size) = some t.cells.length := by
  rw [ITM.len h]
  have h := info60
  cases hx : Try.prog.info? 60 with
  | none => rw [hx] at h; cases h
  | some i0 => rw [hx] at h; simp at h; simp [h.1]
set_option maxRecDepth 100000 in
set_option maxHeartbeats 2000000 in
theorem c10 (w : World) (ga gb n ca cb : Nat) (A B : Nat → ITM) (hA : ∀ k, k < n → (A k).OK) (hB : ∀ k, k < n → (B k).OK) (hS : ∀ k, k < n → (A k).Sim (B k)) (ra : ∀ k, k < n → w.rangeAt ga (k * 23) (A k).cells) (rb : ∀ k, k < n → w.rangeAt gb (k * 23) (B k).cells) (la : ga < w.heap.size) (lb : gb < w.heap.size) (hn : n ≤ 1048576) :
    Calls Try.prog 10 #[.slice (some ⟨ga, 0, none⟩) n ca, .slice (some ⟨gb, 0, none⟩) n cb] w fun e w' => e = .returned (.bool true) ∧ Below w.heap.size w w' := by
  have HI := Lib.hid (And.intro hA (And.intro hB (And.intro hS (And.intro ra (And.intro rb (And.intro la lb))))))
  clear hA hB hS ra rb la lb
  have B0 := Lib.hid (Below.refl w.heap.size w)
  go_enter Try.func10, Try.ntmps10
  go_wp2_with fail
  go_loopw [5, 6] (fun ii _ wx => ∃ i : Nat, ii = .int .i64 (i : Int) ∧ i ≤ n ∧ Hid (Below w.heap.size w wx)) (fun ii _ _ => n - (intOf ii).toNat)
  case atStart => exact ⟨0, by go_num, Nat.zero_le _, B0⟩
  case round =>
    obtain ⟨i, rfl, hin, hI⟩ := hrel
    clear B0
    by_cases hlt : i < n
    · have hii : (i : Int) < (n : Int) := by omega
      have di : decide ((i : Int) < (n : Int)) = true := decide_eq_true hii
      have RA := Lib.hid (show ∀ w', Below wr.heap.size wr w' → w'.rangeAt ga (i * 23) (A i).cells from fun w' hb => range_below (range_below (HI.out.2.2.2.1 i hlt) hI.out HI.out.2.2.2.2.2.1) hb (Nat.lt_of_lt_of_le HI.out.2.2.2.2.2.1 hI.out.size))
      have RB := Lib.hid (show ∀ w', Below wr.heap.size wr w' → w'.rangeAt gb (i * 23) (B i).cells from fun w' hb => range_below (range_below (HI.out.2.2.2.2.1 i hlt) hI.out HI.out.2.2.2.2.2.2) hb (Nat.lt_of_lt_of_le HI.out.2.2.2.2.2.2 hI.out.size))
      have SA := Lib.hid (sz60 (HI.out.1 i hlt))
      have SB := Lib.hid (sz60 (HI.out.2.1 i hlt))
      have HO := Lib.hid (And.intro (HI.out.1 i hlt) (And.intro (HI.out.2.1 i hlt) (HI.out.2.2.1 i hlt)))
      go_wp2_with fail
      refine wp_region_rel 10 (fun w' => Below wr.heap.size wr w') (fun _ _ v => v = .bool true) (by kernel_rfl) (by kernel_rfl) ((Below.refl _ _).drew) ?_
      simp only [List.take_succ_cons, List.take_zero, List.drop_succ_cons, List.drop_zero]
      refine rel_move (v := .slice (some ⟨ga, 0, none⟩) n ca) rfl rfl ?_
      simp only [Act.put, List.setIfInBounds_toArray, List.set_cons_succ, List.set_cons_zero]
      refine rel_move (v := .int .i64 (i : Int)) rfl rfl ?_
      simp only [Act.put, List.setIfInBounds_toArray, List.set_cons_succ, List.set_cons_zero]
      refine rel_val (v := .pointer (some ⟨ga, i * 23, none⟩)) rfl (fun w' hw => by go_simp) ?_
      simp only [Act.put, List.setIfInBounds_toArray, List.set_cons_succ, List.set_cons_zero]
      refine rel_load_row ga (i * 23) (A i).cells _ rfl rfl RA.out Try.underlying60 rfl SA.out ?_
      simp only [Act.put, List.setIfInBounds_toArray, List.set_cons_succ, List.set_cons_zero]
      refine rel_move (v := .slice (some ⟨gb, 0, none⟩) n cb) rfl rfl ?_
      simp only [Act.put, List.setIfInBounds_toArray, List.set_cons_succ, List.set_cons_zero]
      refine rel_move (v := .int .i64 (i : Int)) rfl rfl ?_
      simp only [Act.put, List.setIfInBounds_toArray, List.set_cons_succ, List.set_cons_zero]
      refine rel_val (v := .pointer (some ⟨gb, i * 23, none⟩)) rfl (fun w' hw => by go_simp) ?_
      simp only [Act.put, List.setIfInBounds_toArray, List.set_cons_succ, List.set_cons_zero]
      refine rel_load_row gb (i * 23) (B i).cells _ rfl rfl RB.out Try.underlying60 rfl SB.out ?_
      simp only [Act.put, List.setIfInBounds_toArray, List.set_cons_succ, List.set_cons_zero]
      refine rel_call (f := 31) (args := #[.agg (A i).cells.toArray, .agg (B i).cells.toArray]) rfl (fun w' hw => by go_simp) (fun w' hw => (c31 w' (A i) (B i) HO.out.1 HO.out.2.1 HO.out.2.2).mono fun e w'' ⟨he, hq⟩ => ⟨_, he, rfl, hw.trans (hq.mono hw.size)⟩) (fun v hv => ?_)
      obtain rfl : v = .bool true := hv
      simp only [Act.put, List.setIfInBounds_toArray, List.set_cons_succ, List.set_cons_zero]
      refine rel_assign (v := .bool true) rfl rfl ?_
      simp only [Act.put, List.setIfInBounds_toArray, List.set_cons_succ, List.set_cons_zero]
      refine rel_nil ?_
      intro w3 hB3
      have I3 := Lib.hid (hI.out.trans (hB3.mono hI.out.size))
      clear hB3 hI
      go_wp2
      go_roundw
      case rel => exact ⟨i + 1, by go_num, by omega, I3⟩
      case measure => simp [intOf]; omega
    · have di : decide ((i : Int) < (n : Int)) = false := decide_eq_false (by omega)
      go_wp2
      go_ret
      exact ⟨rfl, hI.out⟩
end Go.Proofs.Ytedkbjimofiphaa
