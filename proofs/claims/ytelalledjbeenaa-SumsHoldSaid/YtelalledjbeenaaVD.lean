/- Four Accs and four sums: one of them is another. -/
import Derived.Test.YtelalledjbeenaaVB
import Derived.Test.YtelalledjbeenaaUM
import Derived.Test.YtelalledjbeenaaPartB
import Derived.Laws.Tables
namespace Go.Proofs.Ytelalledjbeenaa
open Go.RowKit Fl

theorem Four.far {w w' : World} {B a p : Nat} {gs : List Nat} {ss : List AS} (h : Four w B a gs ss) (ho : Only p w w') (hpa : p ≠ a) (hpg : p ∉ gs) : Four w' B a gs ss := by
  have e : ∀ o, w'.cell? ⟨a, o, none⟩ = w.cell? ⟨a, o, none⟩ := fun o => World.cell?_of_block (w := w) (ho.block a h.alt.2 (fun e => hpa e.symm))
  have f : ∀ o, w'.frozen? ⟨a, o, none⟩ = w.frozen? ⟨a, o, none⟩ := fun o => World.frozen?_of_block (w := w) (ho.block a h.alt.2 (fun e => hpa e.symm))
  exact ⟨h.len, fun j g hj => (e j).trans (h.ptr j g hj), fun j hj => by rw [e j]; exact h.cel j hj, fun j => (f j).trans (h.fr j),
    fun j g s hj hs => (h.acc j g s hj hs).only ho (h.lt g (List.mem_of_getElem? hj)).2.1 (fun e => hpg (by rw [← e]; exact List.mem_of_getElem? hj)),
    fun g hg => by have := h.lt g hg; have := ho.size; omega, h.nd, ⟨h.alt.1, Nat.lt_of_lt_of_le h.alt.2 ho.size⟩⟩
theorem mem_set_of {gs : List Nat} {m g x : Nat} (h : x ∈ gs.set m g) : x ∈ gs ∨ x = g := by
  rcases List.mem_or_eq_of_mem_set h with h | h
  · exact .inl h
  · exact .inr h
theorem nodup_set {gs : List Nat} {m g : Nat} (h : gs.Nodup) (hg : g ∉ gs) : (gs.set m g).Nodup := by
  rw [List.nodup_iff_pairwise_ne] at *
  rw [List.pairwise_iff_getElem] at *
  intro i j hi hj hij
  rw [List.length_set] at hi hj
  rw [List.getElem_set, List.getElem_set]
  split
  · rename_i e
    split
    · omega
    · exact fun e2 => hg (by rw [e2]; exact List.getElem_mem hj)
  · split
    · exact fun e2 => hg (by rw [← e2]; exact List.getElem_mem hi)
    · exact h i j hi hj hij
/-- a new Acc in the place of another -/
theorem Four.renew {w : World} {B a g m : Nat} {gs : List Nat} {ss : List AS} {s : AS} (h : Four w B a gs ss) (hg : AccAt w g s) (hlt : g < w.heap.size) (hB : B ≤ g) (hne : g ≠ a) (hnew : g ∉ gs) (hm : m < gs.length) (hm4 : m < 4) :
    Four (w.setCell ⟨a, m, none⟩ (.pointer (some ⟨g, 0, none⟩))) B a (gs.set m g) (ss.set m s) := by
  have hc : ∀ j, j ≠ m → (w.setCell ⟨a, m, none⟩ (.pointer (some ⟨g, 0, none⟩))).cell? ⟨a, j, none⟩ = w.cell? ⟨a, j, none⟩ := fun j hj => World.cell?_setCell_other _ _ _ _ (fun e => hj (by injection e with _ e; exact e.symm ▸ rfl))
  obtain ⟨v0, hv0⟩ := h.cel m hm4
  have hs : (w.setCell ⟨a, m, none⟩ (.pointer (some ⟨g, 0, none⟩))).cell? ⟨a, m, none⟩ = some (.pointer (some ⟨g, 0, none⟩)) := World.cell?_setCell_same _ _ _ hv0
  refine ⟨by rw [List.length_set, List.length_set]; exact h.len, fun j g' hj => ?_, fun j hj => ?_, fun j => (World.frozen?_setCell ..).trans (h.fr j), fun j g' s' hj hs' => ?_, fun g' hg' => ?_, nodup_set h.nd hnew, ⟨h.alt.1, by simpa [World.setCell] using h.alt.2⟩⟩
  · by_cases e : j = m
    · subst e
      rw [List.getElem?_set_self hm] at hj
      injection hj with hj
      subst hj
      exact hs
    · rw [List.getElem?_set_ne (fun x => e x.symm)] at hj
      rw [hc j e]; exact h.ptr j g' hj
  · by_cases e : j = m
    · subst e; exact ⟨_, hs⟩
    · rw [hc j e]; exact h.cel j hj
  · by_cases e : j = m
    · subst e
      rw [List.getElem?_set_self hm] at hj
      rw [List.getElem?_set_self (by rw [← h.len]; exact hm)] at hs'
      injection hj with hj
      injection hs' with hs'
      subst hj; subst hs'
      exact hg.setFar (p := ⟨a, j, none⟩) (fun e => hne e.symm) hlt _
    · rw [List.getElem?_set_ne (fun x => e x.symm)] at hj hs'
      have hmm := h.lt g' (List.mem_of_getElem? hj)
      exact (h.acc j g' s' hj hs').setFar (p := ⟨a, m, none⟩) (fun e => hmm.2.2 e.symm) hmm.2.1 _
  · rcases mem_set_of hg' with h1 | h1
    · have := h.lt g' h1; simpa [World.setCell] using this
    · rw [h1]; exact ⟨hB, by simpa [World.setCell] using hlt, hne⟩
/-- four Accs and four sums that are one -/
structure Hold (w wx : World) (a p : Nat) (gs : List Nat) (rs : List RS) : Prop where
  four : Four wx w.heap.size a gs (rs.map accOf)
  len : rs.length = 4
  sum : ∀ j r, rs[j]? = some r → SumAt wx p (j * 145) r
  blk : w.heap.size ≤ p ∧ p < wx.heap.size ∧ p ≠ a ∧ p ∉ gs
  ok : ∀ r ∈ rs, ROK r ∧ r.many ≤ 1099511627776
  bel : Below w.heap.size w wx
theorem Hold.below {w wx wy : World} {a p : Nat} {gs : List Nat} {rs : List RS} (h : Hold w wx a p gs rs) (hb : Below wx.heap.size wx wy) : Hold w wy a p gs rs :=
  ⟨h.four.below hb, h.len, fun j r hj => (h.sum j r hj).below hb h.blk.2.1, ⟨h.blk.1, Nat.lt_of_lt_of_le h.blk.2.1 hb.size, h.blk.2.2⟩, h.ok, below_trans h.bel hb⟩
theorem Hold.drew {w wx : World} {a p : Nat} {gs : List Nat} {rs : List RS} (h : Hold w wx a p gs rs) (n : Nat) : Hold w (wx.drewN n) a p gs rs := h.below (Bd (Below.refl _ _) n)
theorem Hold.glen {w wx : World} {a p : Nat} {gs : List Nat} {rs : List RS} (h : Hold w wx a p gs rs) : gs.length = 4 := by rw [h.four.len, List.length_map, h.len]
/-- the sums of a place -/
theorem Hold.sums {wx wy : World} {p m : Nat} {rs : List RS} {s' : RS} (hsum : ∀ j r, rs[j]? = some r → SumAt wx p (j * 145) r) (hm : m < rs.length) (hs : SumAt wy p (m * 145) s') (ho : OnlyC p (m * 145) (m * 145 + 145) wx wy) :
    ∀ j r, (rs.set m s')[j]? = some r → SumAt wy p (j * 145) r := fun j r hj => by
  by_cases e : j = m
  · subst e
    rw [List.getElem?_set_self hm] at hj
    injection hj with hj
    subst hj
    exact hs
  · rw [List.getElem?_set_ne (fun x => e x.symm)] at hj
    exact (hsum j r hj).far ho (by omega)
theorem Hold.upd {w wx wy wz : World} {a p m g : Nat} {gs : List Nat} {rs : List RS} {s' : RS} (h : Hold w wx a p gs rs) (hm : m < 4) (hg : gs[m]? = some g) (ha : AccAt wy g (accOf s')) (ho : Only g wx wy)
    (hs : SumAt wz p (m * 145) s') (hc : OnlyC p (m * 145) (m * 145 + 145) wy wz) (hok : ROK s' ∧ s'.many ≤ 1099511627776) : Hold w wz a p gs (rs.set m s') := by
  have hgl := h.four.lt g (List.mem_of_getElem? hg)
  have hgp : p ≠ g := fun e => h.blk.2.2.2 (by rw [e]; exact List.mem_of_getElem? hg)
  refine ⟨?_, by rw [List.length_set]; exact h.len, Hold.sums (wx := wy) (fun j r hj => (h.sum j r hj).other ho h.blk.2.1 hgp) (by rw [h.len]; exact hm) hs hc, ⟨h.blk.1, Nat.lt_of_lt_of_le h.blk.2.1 (Nat.le_trans ho.size hc.only.size), h.blk.2.2⟩, fun r hr => ?_, ?_⟩
  · rw [List.map_set]
    exact (h.four.step hg ha ho).far hc.only h.blk.2.2.1 h.blk.2.2.2
  · rcases List.mem_or_eq_of_mem_set hr with h1 | h1
    · exact h.ok r h1
    · rw [h1]; exact hok
  · exact hc.Below h.blk.1 (Nat.le_trans h.bel.size ho.size) (ho.below hgl.1 h.bel.size h.bel)
/-- a new Acc, a sum of nothing -/
theorem Hold.renew {w wx w4 wz : World} {a p m g : Nat} {gs : List Nat} {rs : List RS} (h : Hold w wx a p gs rs) (hm : m < 4) (hg : g = wx.heap.size) (ha : AccAt w4 g AS.zero) (hb : Below wx.heap.size wx w4) (hl : wx.heap.size < w4.heap.size)
    (hs : SumAt wz p (m * 145) RS.zero) (hc : OnlyC p (m * 145) (m * 145 + 145) (w4.setCell ⟨a, m, none⟩ (.pointer (some ⟨g, 0, none⟩))) wz) : Hold w wz a p (gs.set m g) (rs.set m RS.zero) := by
  have h4 := h.below hb
  have hgl := h.glen
  have hng : g ∉ gs := fun hm => by have := h.four.lt _ hm; omega
  have F := h4.four.renew (m := m) ha (by omega) (by have := h.bel.size; omega) (by have := h.four.alt.2; omega) hng (by omega) hm
  have hpg : p ≠ g := by have := h.blk.2.1; omega
  have hpn : p ∉ gs.set m g := fun hx => by
    rcases mem_set_of hx with h1 | h1
    · exact h.blk.2.2.2 h1
    · exact hpg h1
  refine ⟨?_, by rw [List.length_set]; exact h.len, Hold.sums (wx := w4.setCell ⟨a, m, none⟩ (.pointer (some ⟨g, 0, none⟩))) (fun j r hj => (h4.sum j r hj).other (b := a) ((Only.refl a w4).setCell _) h4.blk.2.1 h.blk.2.2.1) (by rw [h.len]; exact hm) hs hc, ⟨h.blk.1, Nat.lt_of_lt_of_le h4.blk.2.1 (by have := hc.only.size; rw [World.size_setCell] at this; exact this), h.blk.2.2.1, hpn⟩, fun r hr => ?_, ?_⟩
  · rw [List.map_set]
    exact F.far hc.only h.blk.2.2.1 hpn
  · rcases List.mem_or_eq_of_mem_set hr with h1 | h1
    · exact h.ok r h1
    · rw [h1]; exact ⟨ROK.zero, by decide⟩
  · exact hc.Below h.blk.1 (by rw [World.size_setCell]; exact h4.bel.size) (h4.bel.setCell h.four.alt.1 _)
theorem SumAt.range {w : World} {b o : Nat} {s : RS} (h : SumAt w b o s) : w.rangeAt b o (SV s) := fun j v hv => by
  have hj : j < 145 := by have := (List.getElem?_eq_some_iff.1 hv).1; rw [SV_len] at this; exact this
  by_cases h1 : j < 70
  · rw [SV_up s j h1] at hv
    cases hv
    exact (h.up j h1).1
  · by_cases h2 : j < 140
    · obtain ⟨i, rfl⟩ : ∃ i, j = 70 + i := ⟨j - 70, by omega⟩
      rw [SV_down s i (by omega)] at hv
      cases hv
      rw [← Nat.add_assoc]
      exact (h.down i (by omega)).1
    · obtain ⟨i, rfl⟩ : ∃ i, j = 140 + i := ⟨j - 140, by omega⟩
      rw [SV_cnt s i] at hv
      rcases (by omega : i = 0 ∨ i = 1 ∨ i = 2 ∨ i = 3 ∨ i = 4) with rfl | rfl | rfl | rfl | rfl <;> cases hv
      · exact h.m0.1
      · exact h.m1.1
      · exact h.m2.1
      · exact h.m3.1
      · exact h.m4.1
theorem sum_of_range {w : World} {b o : Nat} {s : RS} (h : w.rangeAt b o (SV s)) (hf : ∀ j, j < 145 → w.frozen? ⟨b, o + j, none⟩ = false) : SumAt w b o s :=
  ⟨fun j hj => ⟨h j _ (SV_up s j hj), hf j (by omega)⟩, fun j hj => ⟨by rw [Nat.add_assoc]; exact h (70 + j) _ (SV_down s j hj), by rw [Nat.add_assoc]; exact hf _ (by omega)⟩,
   ⟨h 140 _ (SV_cnt s 0), hf 140 (by omega)⟩, ⟨h 141 _ (SV_cnt s 1), hf 141 (by omega)⟩, ⟨h 142 _ (SV_cnt s 2), hf 142 (by omega)⟩, ⟨h 143 _ (SV_cnt s 3), hf 143 (by omega)⟩, ⟨h 144 _ (SV_cnt s 4), hf 144 (by omega)⟩⟩
theorem SumAt.fro {w : World} {b o : Nat} {s : RS} (h : SumAt w b o s) (j : Nat) (hj : j < 145) : w.frozen? ⟨b, o + j, none⟩ = false := by
  by_cases h1 : j < 70
  · exact (h.up j h1).2
  · by_cases h2 : j < 140
    · have := (h.down (j - 70) (by omega)).2
      rwa [show o + 70 + (j - 70) = o + j by omega] at this
    · rcases (by omega : j = 140 ∨ j = 141 ∨ j = 142 ∨ j = 143 ∨ j = 144) with rfl | rfl | rfl | rfl | rfl
      · exact h.m0.2
      · exact h.m1.2
      · exact h.m2.2
      · exact h.m3.2
      · exact h.m4.2
theorem SumAt.there {w : World} {b o : Nat} {s : RS} (h : SumAt w b o s) : w.there b o 145 := fun j hj => by
  refine ⟨?_, h.fro j hj⟩
  have hl : j < (SV s).length := by rw [SV_len]; exact hj
  rw [h.range j _ (List.getElem?_eq_getElem hl)]; rfl
theorem OnlyC.setCells {b lo hi : Nat} {w w' : World} (h : OnlyC b lo hi w w') (o : Nat) (vs : List Value) (h1 : lo ≤ o) (h2 : o + vs.length ≤ hi) : OnlyC b lo hi w (w'.setCells b o vs) := by
  induction vs generalizing o w' with
  | nil => exact h
  | cons v r ih =>
    rw [List.length_cons] at h2
    rw [World.setCells]; exact ih (h.set (by omega) v) (o + 1) (by omega) (by omega)
theorem UL_zero : UL 0 = List.replicate 70 (.int .u32 0) := by
  unfold UL
  apply List.ext_getElem
  · simp
  · intro i h1 h2
    rw [List.getElem_map, List.getElem_range, dg_zero, List.getElem_replicate]; rfl
theorem SV_zero : (SV RS.zero).toArray = Try.zeroCells110 := by
  rw [zero110]
  unfold SV
  rw [show RS.zero.up = 0 from rfl, show RS.zero.down = 0 from rfl, UL_zero]
  rfl
/-- a sum of nothing is stored -/
theorem SumAt.clear {w : World} {b o : Nat} {s : RS} (h : SumAt w b o s) : SumAt (w.setCells b o (SV RS.zero)) b o RS.zero ∧ OnlyC b o (o + 145) w (w.setCells b o (SV RS.zero)) := by
  have hc := (OnlyC.refl b o (o + 145) w).setCells o (SV RS.zero) (Nat.le_refl _) (by rw [SV_len]; exact Nat.le_refl _)
  refine ⟨sum_of_range (World.rangeAt_setCells_same _ _ _ _ (by rw [SV_len]; exact h.there)) (fun j hj => (hc.fro _).trans (h.fro j hj)), hc⟩
theorem ZL_eq : SV RS.zero = Try.zeroCells110.toList := congrArg Array.toList SV_zero
theorem SumAt.clearZ {w : World} {b o : Nat} {s : RS} (h : SumAt w b o s) : SumAt (w.setCells b o Try.zeroCells110.toList) b o RS.zero ∧ OnlyC b o (o + 145) w (w.setCells b o Try.zeroCells110.toList) :=
  Eq.subst (motive := fun L => SumAt (w.setCells b o L) b o RS.zero ∧ OnlyC b o (o + 145) w (w.setCells b o L)) ZL_eq h.clear
theorem ptr_keep {w w' : World} {a m p lo hi : Nat} {v : Value} (h : OnlyC p lo hi w w') (ha : a < w.heap.size) (hne : a ≠ p) (k : w.cell? ⟨a, m, none⟩ = some v) : w'.cell? ⟨a, m, none⟩ = some v :=
  (World.cell?_of_block (w := w) (h.only.block a ha hne)).trans k
theorem built110 : Try.prog.built 110 [] = some (SV RS.zero).toArray := by kernel_rfl
theorem wpList_build0 {P : Program} {ops : Array Oper} {rest : List Oper} {o : Oper} {a : Act} {w : World} {Q : Exit → Act → World → Prop} (hg : o.guard = none) (t : TypeId) (ho : o.op = .build t #[]) (cells : Array Value) (hb : P.built t [] = some cells)
    (h : wpList P ops Q rest (a.put o.dst (.agg cells)) w) : wpList P ops Q (o :: rest) a w :=
  wpList_build hg t #[] ho (by simp [hb]) (by simpa [hb] using h)
theorem SV_all (s : RS) : (SV s).toArray.all (·.oneCell') = true := all_oneCell_toArray (SV_one s)
theorem SV_size (s : RS) : (Try.prog.info? 110).map (·.size) = some (SV s).toArray.size := by rw [List.size_toArray, SV_len]; kernel_rfl
theorem SumAt.thereV {w : World} {b o : Nat} {s : RS} (h : SumAt w b o s) (t : RS) : w.there b o (SV t).toArray.size := by
  rw [List.size_toArray, SV_len]; exact h.there
theorem acc38 {w wx : World} {a p m n g q : Nat} {gs : List Nat} {rs : List RS} {s t : RS} (h : Hold w wx a p gs rs) (hg : gs[m]? = some g) (hq : gs[n]? = some q) (hs : rs[m]? = some s) (ht : rs[n]? = some t) :
    Calls Try.prog 38 #[.pointer (some ⟨g, 0, none⟩), .pointer (some ⟨q, 0, none⟩)] wx fun e w' => e = .returned (.tuple #[]) ∧ AccAt w' g (joinS (accOf s) (accOf t)) ∧ Only g wx w' := by
  have ag := h.four.acc m g (accOf s) hg (by rw [List.getElem?_map, hs]; rfl)
  have aq := h.four.acc n q (accOf t) hq (by rw [List.getElem?_map, ht]; rfl)
  have lg := (h.four.lt g (List.mem_of_getElem? hg)).2.1
  have lq := (h.four.lt q (List.mem_of_getElem? hq)).2.1
  by_cases e : m = n
  · subst e
    rw [hg] at hq
    rw [hs] at ht
    injection hq with hq
    injection ht with ht
    subst hq; subst ht
    exact c38s g (accOf s) wx ag lg
  · refine c38 g q (accOf s) (accOf t) wx ag aq lg lq (fun e2 => e ?_)
    subst e2
    have h1 := List.getElem?_eq_some_iff.1 hg
    have h2 := List.getElem?_eq_some_iff.1 hq
    exact nodup_inj h.four.nd h1.1 h2.1 (h1.2.trans h2.2.symm)
theorem cap_B2559 : ((2 ^ (32 * RC) : Nat) : Int) ≤ B2559 := by
  have h : (2 : Int) ^ 0 * 2 ^ (32 * RC) ≤ B2559 := ipow_le 0 (32 * RC) 2559 (by rw [RC_eq]; decide)
  rw [Int.pow_zero, Int.one_mul] at h
  rw [Int.natCast_pow]; exact h
theorem acc_bound2 {s : RS} (h : ROK s) (hm : s.many ≤ 1099511627776) : -B2559 < (accOf s).z ∧ (accOf s).z < B2559 := by
  have h1 := (h.small (by omega))
  have h2 := cap_B2559
  unfold accOf
  simp only
  generalize B2559 = x at *
  generalize 2 ^ (32 * RC) = y at *
  omega
theorem valAcc {w wx : World} {a p m g : Nat} {gs : List Nat} {rs : List RS} {s : RS} (h : Hold w wx a p gs rs) (hg : gs[m]? = some g) (hs : rs[m]? = some s) :
    Calls Try.prog 39 #[.pointer (some ⟨g, 0, none⟩)] wx fun e w' => RetF (pV (accOf s)) e ∧ Below wx.heap.size wx w' :=
  have ok := h.ok s (List.mem_of_getElem? hs)
  c39 g (accOf s) wx (h.four.acc m g (accOf s) hg (by rw [List.getElem?_map, hs]; rfl)) (h.four.lt g (List.mem_of_getElem? hg)).2.1 (acc_bound2 ok.1 ok.2).1 (acc_bound2 ok.1 ok.2).2
theorem valSum {w wx : World} {a p m : Nat} {gs : List Nat} {rs : List RS} {s : RS} (h : Hold w wx a p gs rs) (hs : rs[m]? = some s) :
    Calls Try.prog 115 #[.pointer (some ⟨p, m * 145, none⟩)] wx fun e w' => RetF (pV (accOf s)) e ∧ Below wx.heap.size wx w' :=
  have ok := h.ok s (List.mem_of_getElem? hs)
  c115 p (m * 145) s wx (h.sum m s hs) h.blk.2.1 (ok.1.small (by have := ok.2; omega)).1 (ok.1.small (by have := ok.2; omega)).2
end Go.Proofs.Ytelalledjbeenaa
