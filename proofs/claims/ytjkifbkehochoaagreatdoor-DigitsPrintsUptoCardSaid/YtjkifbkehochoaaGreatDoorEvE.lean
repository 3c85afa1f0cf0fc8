/- The evaluator of closed calls, part EvE. -/
import Derived.Test.YtjkifbkehochoaaGreatDoorMgEvC
set_option linter.unusedSimpArgs false
set_option linter.unusedVariables false
namespace Go.Proofs.YtjkifbkehochoaaGreatDoor.Ev
section
variable {P : Program} {X : FuncId → List Value → Option Value} {call : CallF} {ops : Array Oper} {s : St} {n0 : Nat}
/-- the step of one that acts -/
theorem eff_step (d : DOK P X call ops s n0) {k : Nat} (hk : k < d.m) {φ φ' : Ren} {w w' : World} (hr : HR φ (d.C k) (d.V k).n w) (hbig : n0 + ops.size ≤ (d.V k).n)
    (hs : Step φ (d.I k).get (d.I k).n w φ' (d.V (k + 1)).get (d.V (k + 1)).n w') :
    StepM s.h.n φ (d.C k) w φ' (d.C (k + 1)) (d.V (k + 1)).n w' := by
  have hIn := d.hIn k hk
  rw [hIn] at hs
  have hlt := hr.lt
  have pk : ∀ id, d.pend (k + 1) id → d.pend k id := fun id ⟨h1, h2, h3, h4⟩ => by
    refine ⟨h1, h2, ?_, h4⟩
    cases hb : d.ins k (id - n0) with
    | false => rfl
    | true => rw [d.hmono k _ hk hb] at h3; cases h3
  have plt : ∀ id, d.pend (k + 1) id → id < (d.V k).n := fun id h => by have := h.2.1; omega
  have cp : ∀ id, d.pend (k + 1) id → ∃ B, Blk.live (some B) ∧ d.C k id = some B ∧ d.C (k + 1) id = some B := fun id h => by
    obtain ⟨B, mk, h1, h2⟩ := d.C_pend h
    obtain ⟨B', mk', h1', h2'⟩ := d.C_pend (pk id h)
    rw [h1] at h1'
    cases h1'
    exact ⟨B, d.hlive _ _ _ h1, h2', h2⟩
  have In : ∀ id, ¬ d.pend (k + 1) id → (d.I k).get id = d.C k id := fun id h => d.I_not hk h
  have Ip : ∀ id, d.pend (k + 1) id → (d.I k).get id = none := fun id h => d.I_pend hk h
  have Cn : ∀ id, ¬ d.pend (k + 1) id → d.C (k + 1) id = (d.V (k + 1)).get id := fun id h => d.C_not h
  have liveI : ∀ id, Blk.live ((d.I k).get id) → ¬ d.pend (k + 1) id ∧ Blk.live (d.C k id) := fun id h => by
    by_cases hp : d.pend (k + 1) id
    · rw [Ip id hp] at h; exact h.elim
    · rw [In id hp] at h; exact ⟨hp, h⟩
  have n0s := d.hn0
  have npl : ∀ id, id < s.h.n → ¬ d.pend (k + 1) id := fun id hi hp => by have := hp.1; omega
  -- what a name of the new state stands for, where its block is one that is seen
  have back : ∀ j b, φ' j = some b → b < w.heap.size → ¬ d.pend (k + 1) j → Blk.there ((d.V (k + 1)).get j) → ∃ j', ¬ d.pend (k + 1) j' ∧ φ j' = some b ∧ Blk.there (d.C k j') ∧ (Blk.live ((d.V (k + 1)).get j) → Blk.live (d.C k j')) ∧ (j < (d.V k).n → j' = j) := by
    intro j b hj hb hp ht
    by_cases hjn : j < (d.V k).n
    · refine ⟨j, hp, hs.old j b hjn hj, ?_, fun hl => (liveI j (hs.liv j hjn hl)).2, fun _ => rfl⟩
      by_cases hl : Blk.live ((d.V (k + 1)).get j)
      · exact Blk.live_there (liveI j (hs.liv j hjn hl)).2
      · unfold Blk.there at ht
        cases hv : (d.V (k + 1)).get j with
        | none => rw [hv] at ht; exact ht.elim
        | some B =>
          cases B with
          | ro cs =>
            have := hs.ro j cs hv
            rw [In j hp] at this
            rw [this]
            trivial
          | dead => rw [hv] at ht; exact ht.elim
          | cells c1 c2 c3 c4 => rw [hv] at hl; exact absurd trivial hl
          | obj o => rw [hv] at hl; exact absurd trivial hl
    · have hl : Blk.live ((d.V (k + 1)).get j) := by
        cases hv : (d.V (k + 1)).get j with
        | none => rw [hv] at ht; exact ht.elim
        | some B =>
          cases B with
          | ro cs =>
            have h1 := hs.ro j cs hv
            rw [In j hp] at h1
            have := hr.ro j cs h1
            omega
          | dead => rw [hv] at ht; exact ht.elim
          | cells c1 c2 c3 c4 => trivial
          | obj o => trivial
      rcases hs.new j b (by omega) hj hl with h1 | ⟨j', h1, h2⟩
      · omega
      · have := liveI j' h2
        exact ⟨j', this.1, h1, Blk.live_there this.2, fun _ => this.2, fun hh => absurd hh hjn⟩
  have pendold : ∀ id b, d.pend (k + 1) id → φ' id = some b → φ id = some b ∧ b < w.heap.size := fun id b hp hb => by
    have h1 := hs.old id b (plt id hp) hb
    exact ⟨h1, (hlt id b h1).2⟩
  have framep : ∀ id b, d.pend (k + 1) id → φ id = some b → w'.heap[b]? = w.heap[b]? := fun id b hp hb => by
    refine hs.frame b (hlt id b hb).2 fun j hj hl => ?_
    obtain ⟨q1, q2⟩ := liveI j hl
    obtain ⟨B, c0, c1, c2⟩ := cp id hp
    have := hr.inj j id b hj hb q2 (by rw [c1]; exact Blk.live_there c0)
    subst this
    exact q1 hp
  refine ⟨⟨hs.hr.bnd, fun i cs h => ?_, hs.hr.lt, fun i j b hi hj hl ht => ?_, fun i b hi => ?_⟩, hs.ext, fun i b hi h => hs.old i b (by have := hbig; omega) h, by have := hs.le; have := hbig; omega, fun i hi hl => ?_, fun i cs h => ?_, fun i b hi hb hl => ?_, hs.size, fun b hb hno => hs.frame b hb fun i hi hl => hno i hi (liveI i hl).2, hs.same⟩
  · by_cases hp : d.pend (k + 1) i
    · obtain ⟨B, c0, c1, c2⟩ := cp i hp
      rw [c2] at h; cases h; exact c0.elim
    · rw [Cn i hp] at h; exact hs.hr.ro i cs h
  · by_cases pi : d.pend (k + 1) i <;> by_cases pj : d.pend (k + 1) j
    · obtain ⟨B, c0, c1, c2⟩ := cp i pi
      obtain ⟨B', c0', c1', c2'⟩ := cp j pj
      exact hr.inj i j b (pendold i b pi hi).1 (pendold j b pj hj).1 (by rw [c1]; exact c0) (by rw [c1']; exact Blk.live_there c0')
    · obtain ⟨B, c0, c1, c2⟩ := cp i pi
      obtain ⟨h1, h2⟩ := pendold i b pi hi
      rw [Cn j pj] at ht
      obtain ⟨j', q1, q2, q3, -, -⟩ := back j b hj h2 pj ht
      have := hr.inj i j' b h1 q2 (by rw [c1]; exact c0) q3
      subst this
      exact absurd pi q1
    · obtain ⟨B, c0, c1, c2⟩ := cp j pj
      obtain ⟨h1, h2⟩ := pendold j b pj hj
      rw [Cn i pi] at hl
      obtain ⟨i', q1, q2, q3, q4, -⟩ := back i b hi h2 pi (Blk.live_there hl)
      have := hr.inj i' j b q2 h1 (q4 hl) (by rw [c1]; exact Blk.live_there c0)
      subst this
      exact absurd pj q1
    · rw [Cn i pi] at hl
      rw [Cn j pj] at ht
      exact hs.hr.inj i j b hi hj hl ht
  · by_cases hp : d.pend (k + 1) i
    · obtain ⟨B, c0, c1, c2⟩ := cp i hp
      have h1 := (pendold i b hp hi).1
      rw [c2, framep i b hp h1]
      have := hr.row i b h1
      rw [c1] at this
      exact this.mono hs.ext (hs.ext i b h1).2
    · rw [Cn i hp]; exact hs.hr.row i b hi
  · rw [Cn i (npl i hi)] at hl
    exact (liveI i (hs.liv i (by have := hbig; omega) hl)).2
  · by_cases hp : d.pend (k + 1) i
    · obtain ⟨B, c0, c1, c2⟩ := cp i hp
      rw [c2] at h; cases h; exact c0.elim
    · rw [Cn i hp] at h
      have := hs.ro i cs h
      rw [In i hp] at this
      exact this
  · by_cases hp : d.pend (k + 1) i
    · obtain ⟨B, c0, c1, c2⟩ := cp i hp
      exact .inr ⟨i, (pendold i b hp hb).1, by rw [c1]; exact c0⟩
    · rw [Cn i hp] at hl
      by_cases hin : i < (d.V k).n
      · exact .inr ⟨i, hs.old i b hin hb, (liveI i (hs.liv i hin hl)).2⟩
      · rcases hs.new i b (by omega) hb hl with h1 | ⟨j, h1, h2⟩
        · exact .inl h1
        · exact .inr ⟨j, h1, (liveI j h2).2⟩
end
end Go.Proofs.YtjkifbkehochoaaGreatDoor.Ev
namespace Go.Proofs.YtjkifbkehochoaaGreatDoor.Ev
section
variable {P : Program} {X : FuncId → List Value → Option Value} {call : CallF} {ops : Array Oper} {s : St} {n0 : Nat}
theorem wpOp_of {Q : Exit → Act → World → Prop} {i : Nat} {o : Oper} {K : Act → World → Prop} {a : Act} {w : World} {b : Bool} (ho : ops[i]? = some o) (hw : Region.wanted o (yielded ops a.tmps) = b) (h1 : b = true → o.wp P a w K Q) (h2 : b = false → K (a.put o.dst undef) w) : wpOp P ops Q i K a w := by
  unfold wpOp
  rw [ho]
  simp only [hw]
  cases b
  · simpa using h2 rfl
  · simpa using Or.inl (h1 rfl)
theorem draw_wp (hX : ExtOK P X) (hC : CallOK P call) (d : DOK P X call ops s n0) {φ0 : Ren} {w0 : World} {Q : Exit → Act → World → Prop}
    (hQ : ∀ φ a w, StepM s.h.n φ0 s.h.get w0 φ (d.C d.m) (d.V d.m).n w → DL φ0 s.D a.defers → a.tmps.size = s.k →
      (∀ (j : Nat) (oj : Oper) t, ops[j]? = some oj → oj.dst = some t → ∃ v', a.tmps[t]? = some v' ∧ VR φ (d.val j) v') →
      (∀ t v, t < s.k → s.T.get t = some v → (∀ (j : Nat) (oj : Oper), ops[j]? = some oj → oj.dst ≠ some t) → ∃ v', a.tmps[t]? = some v' ∧ VR φ v v') → Q .normal a w) :
    ∀ (fuel k : Nat) (φ : Ren) (listed : Array Bool) (a : Act) (w : World), (∃ l : List Nat, l.length ≤ fuel ∧ ∀ i, i < ops.size → LD listed i ∨ i ∈ l) → Inv d φ0 w0 k φ listed a w → wpAny P .any ops Q fuel listed a w := by
  have fin : ∀ (k : Nat) (φ : Ren) (listed : Array Bool) (a : Act) (w : World), Inv d φ0 w0 k φ listed a w → (∀ i, i < ops.size → LD listed i) → Q .normal a w := by
    intro k φ listed a w h hall
    have hkm : k = d.m := by
      rcases Nat.lt_or_ge k d.m with hlt | hge
      · have hk := d.he k hlt
        have hek : d.e k < ops.size := by
          rcases Nat.lt_or_ge (d.e k) ops.size with h1 | h1
          · exact h1
          · have := (h.pre k hlt)
            exfalso
            exact d.hel k hlt h1
        have := (h.pre k hlt).1 (hall _ hek)
        omega
      · have := h.km; omega
    subst hkm
    exact hQ φ a w h.step h.ad h.an (fun j oj t hj hd => h.t1 j oj t (hall j (Array.getElem?_eq_some_iff.1 hj).1) hj hd) fun t v ht hT hno => h.t0 t v ht hT fun j oj _ hj => hno j oj hj
  intro fuel
  induction fuel with
  | zero =>
    intro k φ listed a w ⟨l, hl, hall⟩ h
    have hl0 : l = [] := by cases l with | nil => rfl | cons _ _ => simp at hl
    subst hl0
    have hall' : ∀ i, i < ops.size → LD listed i := fun i hi => (hall i hi).resolve_right (by simp)
    refine ⟨?_, fin k φ listed a w h hall'⟩
    cases hr : Region.ready .any ops listed with
    | nil => rfl
    | cons i r =>
      obtain ⟨o, ho⟩ := LD_of_ready (ops := ops) h.size (show i ∈ Region.ready .any ops listed by rw [hr]; exact List.mem_cons_self ..)
      exact absurd (hall' i (Array.getElem?_eq_some_iff.1 ho.ho).1) ho.no
  | succ fuel ih =>
    intro k φ listed a w ⟨l, hl, hall⟩ h
    refine ⟨fun h0 => fin k φ listed a w h (all_listed d h.size h0), fun i hi => ?_⟩
    obtain ⟨o, hr⟩ := LD_of_ready (ops := ops) h.size hi
    have hin : i < ops.size := (Array.getElem?_eq_some_iff.1 hr.ho).1
    have hil : i ∈ l := (hall i hin).resolve_left hr.no
    have hnext : ∃ l' : List Nat, l'.length ≤ fuel ∧ ∀ j, j < ops.size → LD (listed.setIfInBounds i true) j ∨ j ∈ l' := by
      refine ⟨l.erase i, by rw [List.length_erase_of_mem hil]; omega, fun j hj => ?_⟩
      rw [LD_set]
      by_cases e : j = i
      · exact .inl (.inl ⟨e, by rw [h.size]; exact hin⟩)
      · rcases hall j hj with h1 | h1
        · exact .inl (.inr h1)
        · exact .inr ((List.mem_erase_of_ne e).2 h1)
    have hρ := rho_ok d h hr
    have hw := want_ok d h hr
    have hset : ∀ j, ¬ LD (listed.setIfInBounds i true) j → ¬ LD listed j := fun j hn hl => hn (by rw [LD_set]; exact .inr hl)
    have preSame : (∀ q, q < d.m → d.e q ≠ i) → ∀ q, q < d.m → (LD (listed.setIfInBounds i true) (d.e q) ↔ q < k) := fun hne q hq => by
      rw [← h.pre q hq, LD_set]
      constructor
      · rintro (⟨h1, -⟩ | h1)
        · exact absurd h1 (hne q hq)
        · exact h1
      · exact .inr
    have kindNe : (∀ q, d.kind i ≠ .eff q) → ∀ q, q < d.m → d.e q ≠ i := fun hk q hq he => hk q (by rw [← he]; exact d.he q hq)
    have anc0 := anc_listed d h i o hr.ho hr.dep
    refine wpOp_of hr.ho hw (fun hwt => ?_) fun hwf => ?_
    · cases hk : d.kind i with
      | skip => exact absurd hk (d.hwk i o hr.ho hwt)
      | val =>
        have hne := kindNe (fun q => by rw [hk]; simp)
        have hv := d.hval i o hr.ho hk k h.km (fun q hq ha => (h.pre q hq).1 (anc0 _ ha)) fun q hq ha => by
          rcases Nat.lt_or_ge q k with h1 | h1
          · obtain ⟨oq, hoq⟩ := d.hel2 q hq
            exact absurd (anc_self d h hoq ((h.pre q hq).2 h1) ha) hr.no
          · exact h1
        obtain ⟨v', h1, h2⟩ := evV_run (P := P) h.step.hr hρ hv
        unfold Oper.wp
        rw [h2]
        exact ih k φ _ _ w hnext (h.next d hr φ.le_refl h.step h.km (preSame hne) h.big (fun j hj hn => h.non j hj (hset j hn)) h1)
      | alloc B mk =>
        have hne := kindNe (fun q => by rw [hk]; simp)
        obtain ⟨g1, g2, g3⟩ := d.halloc i o B mk hr.ho hk
        obtain ⟨o', e1, e2, e3⟩ := evA_run (P := P) (w := w) hρ g1
        have hφ := h.non i hin hr.no
        have hpend : d.pend k (n0 + i) := by
          refine ⟨by omega, by omega, ?_, B, mk, by rw [Nat.add_sub_cancel_left]; exact hk⟩
          rw [Nat.add_sub_cancel_left]
          cases hb : d.ins k i with
          | false => rfl
          | true =>
            obtain ⟨q, hq, ha⟩ := d.insAnc k i h.km hb
            have hkm := h.km
            obtain ⟨oq, hoq⟩ := d.hel2 q (by omega)
            exact absurd (anc_self d h hoq ((h.pre q (by omega)).2 hq) ha) hr.no
        obtain ⟨B', mk', c1, c2⟩ := d.C_pend hpend
        rw [Nat.add_sub_cancel_left, hk] at c1
        cases c1
        have hle : φ.le (φ.at (n0 + i) w.heap.size 0) := Ren.at_ext hφ
        obtain ⟨w1, hw1⟩ : ∃ w1 : World, w1 = { w with heap := w.heap.push o' } := ⟨_, rfl⟩
        have hsz : w1.heap.size = w.heap.size + 1 := by rw [hw1]; simp
        have hr1 : HR (φ.at (n0 + i) w.heap.size 0) (d.C k) (d.V k).n w1 := h.step.hr.alloc hφ (by have := h.big; omega) (Nat.le_refl _) h.step.hr.bnd (by rw [hw1]) (e2 _ _ hle) e3 c2 fun j hj => rfl
        have hst : StepM s.h.n φ (d.C k) w (φ.at (n0 + i) w.heap.size 0) (d.C k) (d.V k).n w1 := by
          have hn0 := d.hn0
          refine ⟨hr1, hle, fun j b hj hb => ?_, by have := h.big; omega, fun _ _ hl => hl, fun _ _ hc => hc, fun j b hj hb hl => ?_, by omega, fun b hb _ => ?_, by rw [hw1]; exact ⟨rfl, rfl, rfl⟩⟩
          · rw [Ren.at_ne φ (by omega)] at hb; exact hb
          · by_cases e : j = n0 + i
            · subst e; rw [Ren.at_same] at hb; cases hb; exact .inl (Nat.le_refl _)
            · rw [Ren.at_ne φ e] at hb; exact .inr ⟨j, hb, hl⟩
          · rw [hw1, Array.getElem?_push_lt hb, Array.getElem?_eq_getElem hb]
        unfold Oper.wp
        rw [e1]
        rw [← hw1]
        refine ih k _ _ _ w1 hnext (h.next d hr hle (StepM.trans h.step hst (Nat.le_refl _)) h.km (preSame hne) h.big (fun j hj hn => ?_) ?_)
        · have : j ≠ i := fun e => hn (by rw [LD_set]; exact .inl ⟨e, by rw [h.size]; exact hin⟩)
          rw [Ren.at_ne φ (by omega)]
          exact h.non j hj (hset j hn)
        · rw [g3]; exact Mk.VR g2 (Ren.at_same ..)
      | eff q =>
        obtain ⟨hq, he, hh⟩ := d.heff i o q hr.ho hk
        have hqk : q = k := by
          have h1 : ¬ q < k := fun hlt => hr.no (by rw [← he]; exact (h.pre q hq).2 hlt)
          rcases Nat.lt_or_ge k q with h2 | h2
          · have ha := d.hord k q h2 hq
            rw [he] at ha
            have := (h.pre k (by omega)).1 (anc0 _ ha)
            omega
          · omega
        subst hqk
        have hrI : HR φ (d.I q).get (d.I q).n w := by
          rw [d.hIn q hq]
          refine ⟨h.step.hr.bnd, fun id cs hc => ?_, h.step.hr.lt, fun id j b hi hj hl ht => ?_, fun id b hi => ?_⟩
          · by_cases hp : d.pend (q + 1) id
            · rw [d.I_pend hq hp] at hc; cases hc
            · rw [d.I_not hq hp] at hc; exact h.step.hr.ro id cs hc
          · by_cases hp : d.pend (q + 1) id
            · rw [d.I_pend hq hp] at hl; exact hl.elim
            · by_cases hp' : d.pend (q + 1) j
              · rw [d.I_pend hq hp'] at ht; exact ht.elim
              · rw [d.I_not hq hp] at hl
                rw [d.I_not hq hp'] at ht
                exact h.step.hr.inj id j b hi hj hl ht
          · by_cases hp : d.pend (q + 1) id
            · rw [d.I_pend hq hp]; trivial
            · rw [d.I_not hq hp]; exact h.step.hr.row id b hi
        refine evEff_wp hX hC hh hrI hρ fun φ' v' w' hs hv => ?_
        have hst := eff_step d hq h.step.hr h.big hs
        have hle' := hs.le
        rw [d.hIn q hq] at hle'
        refine ih (q + 1) φ' _ _ w' hnext (h.next d hr hs.ext (StepM.trans h.step hst (Nat.le_refl _)) (by omega) (fun q' hq' => ?_) (by have := h.big; omega) (fun j hj hn => ?_) hv)
        · rw [LD_set, h.pre q' hq']
          constructor
          · rintro (⟨h1, -⟩ | h1)
            · have : q' = q := by
                have k1 := d.he q' hq'
                rw [h1, hk] at k1
                cases k1
                rfl
              omega
            · omega
          · intro hlt
            by_cases e : q' = q
            · subst e; exact .inl ⟨he, by rw [h.size]; exact hin⟩
            · exact .inr (by omega)
        · have hnone := h.non j hj (hset j hn)
          cases hφ' : φ' (n0 + j) with
          | none => rfl
          | some b =>
            have := hs.old (n0 + j) b (by rw [d.hIn q hq]; have := h.big; omega) hφ'
            rw [hnone] at this
            cases this
    · obtain ⟨hk, hv⟩ := d.hskip i o hr.ho hwf
      have hne := kindNe (fun q => by rw [hk]; simp)
      exact ih k φ _ _ w hnext (h.next d hr φ.le_refl h.step h.km (preSame hne) h.big (fun j hj hn => h.non j hj (hset j hn)) (by rw [hv]; exact VR.undef))
end
end Go.Proofs.YtjkifbkehochoaaGreatDoor.Ev
namespace Go.Proofs.YtjkifbkehochoaaGreatDoor.Ev

noncomputable def allB {α : Type} (f : α → Bool) (l : List α) : Bool := List.rec (motive := fun _ => Bool) true (fun x _ ih => match f x with | true => ih | false => false) l
theorem allB_spec {α : Type} {f : α → Bool} : ∀ {l : List α}, allB f l = true → ∀ x ∈ l, f x = true
  | [], _, x, hx => by cases hx
  | y :: l, h, x, hx => by
    replace h : (match f y with | true => allB f l | false => false) = true := h
    split at h
    · rename_i hy
      rcases List.mem_cons.1 hx with rfl | hx
      · exact hy
      · exact allB_spec h x hx
    · cases h
noncomputable def allI {α : Type} (f : Nat → α → Bool) (l : List α) : Nat → Bool := List.rec (motive := fun _ => Nat → Bool) (fun _ => true) (fun x _ ih i => match f i x with | true => ih (Nat.add i 1) | false => false) l
theorem allI_spec {α : Type} {f : Nat → α → Bool} : ∀ {l : List α} {i : Nat}, allI f l i = true → ∀ (j : Nat) x, l[j]? = some x → f (i + j) x = true
  | [], i, _, j, x, hx => by simp at hx
  | y :: l, i, h, j, x, hx => by
    replace h : (match f i y with | true => allI f l (i + 1) | false => false) = true := h
    split at h
    · rename_i hy
      cases j with
      | zero => simp at hx; subst hx; exact hy
      | succ j =>
        have := allI_spec h j x (by simpa using hx)
        rw [show i + (j + 1) = i + 1 + j by omega]; exact this
    · cases h
noncomputable def nthN (A : List Nat) (i : Nat) : Nat := match nth A i with
  | some a => a
  | none => 0
noncomputable def bits (A : List Nat) (i j : Nat) : Bool := Nat.testBit (nthN A i) j
noncomputable def orE (A : List Nat) (l : List Edge) : Nat := List.rec (motive := fun _ => Nat) 0 (fun x _ ih => match Region.binds .any x with
  | true => Nat.lor (Nat.lor (Nat.pow 2 x.on) (nthN A x.on)) ih
  | false => ih) l
theorem orE_spec {A : List Nat} {j : Nat} : ∀ {l : List Edge}, Nat.testBit (orE A l) j = true → ∃ x ∈ l, Region.binds .any x = true ∧ (x.on = j ∨ bits A x.on j = true)
  | [], h => by
    replace h : Nat.testBit 0 j = true := h
    simp at h
  | x :: l, h => by
    replace h : Nat.testBit (match Region.binds .any x with | true => Nat.lor (Nat.lor (Nat.pow 2 x.on) (nthN A x.on)) (orE A l) | false => orE A l) j = true := h
    split at h
    · rename_i hb
      replace h : Nat.testBit ((2 ^ x.on ||| nthN A x.on) ||| orE A l) j = true := h
      rw [Nat.testBit_or, Nat.testBit_or, Bool.or_eq_true, Bool.or_eq_true] at h
      rcases h with (h | h) | h
      · rw [Nat.testBit_two_pow] at h
        exact ⟨x, List.mem_cons_self .., hb, .inl (of_decide_eq_true h)⟩
      · exact ⟨x, List.mem_cons_self .., hb, .inr h⟩
      · obtain ⟨y, h1, h2⟩ := orE_spec h
        exact ⟨y, List.mem_cons_of_mem _ h1, h2⟩
    · obtain ⟨y, h1, h2⟩ := orE_spec h
      exact ⟨y, List.mem_cons_of_mem _ h1, h2⟩
noncomputable def snoc (l : List Nat) (a : Nat) : List Nat := List.rec (motive := fun _ => List Nat) [a] (fun x _ ih => x :: ih) l
noncomputable def masks (ops : List Oper) : List Nat → List Nat := List.rec (motive := fun _ => List Nat → List Nat) (fun A => A) (fun o _ ih A => ih (snoc A (orE A o.after.toList))) ops
noncomputable def tmpsOf (o : Oper) : List Nat := o.op.operands.toList.filterMap fun | .tmp t => some t | _ => none
noncomputable def memN (t : Nat) (l : List Nat) : Bool := List.rec (motive := fun _ => Bool) false (fun x _ ih => match Nat.beq t x with | true => true | false => ih) l
theorem memN_spec {t : Nat} : ∀ {l : List Nat}, memN t l = true → t ∈ l
  | [], h => by cases h
  | x :: l, h => by
    replace h : (match Nat.beq t x with | true => true | false => memN t l) = true := h
    split at h
    · rename_i hb; rw [Nat.eq_of_beq_eq_true hb]; exact List.mem_cons_self ..
    · exact List.mem_cons_of_mem _ (memN_spec h)
/-- what holds of the text of a region -/
noncomputable def statOK (ops : List Oper) (A : List Nat) : Bool :=
  allI (fun i o => Nat.beq (nthN A i) (orE A o.after.toList) &&
    allB (fun x => !(Region.binds .any x) || Nat.ble (Nat.add x.on 1) i) o.after.toList &&
    (match o.dst with
      | none => true
      | some d => allI (fun j p => Nat.beq i j || (match p.dst with | some d' => !(Nat.beq d d') | none => true)) ops 0) &&
    allB (fun t => allI (fun j p => match p.dst with
      | some d => !(Nat.beq d t) || ((Nat.ble i j || bits A i j) && (Nat.ble j i || bits A j i))
      | none => true) ops 0) (tmpsOf o)) ops 0
structure SOK (ops : Array Oper) (A : List Nat) : Prop where
  mask : ∀ (i : Nat) (o : Oper), ops[i]? = some o → nthN A i = orE A o.after.toList
  edge : ∀ (i : Nat) (o : Oper), ops[i]? = some o → ∀ x ∈ o.after, Region.binds .any x = true → x.on < i
  dst : ∀ (i j : Nat) (oi oj : Oper) d, ops[i]? = some oi → ops[j]? = some oj → oi.dst = some d → oj.dst = some d → i = j
  read : ∀ (i j : Nat) (oi oj : Oper) t, ops[i]? = some oi → ops[j]? = some oj → t ∈ tmpsOf oi → oj.dst = some t → (j < i → bits A i j = true) ∧ (i < j → bits A j i = true)
theorem SOK.of {ops : Array Oper} {A : List Nat} (h : statOK ops.toList A = true) : SOK ops A := by
  have key : ∀ (i : Nat) (o : Oper), ops[i]? = some o → _ := fun i o ho => allI_spec h i o (by simpa using ho)
  simp only [Nat.zero_add, Bool.and_eq_true] at key
  refine ⟨fun i o ho => Nat.eq_of_beq_eq_true (key i o ho).1.1.1, fun i o ho x hx hb => ?_, fun i j oi oj d hi hj h1 h2 => ?_, fun i j oi oj t hi hj ht hd => ?_⟩
  · have := allB_spec (key i o ho).1.1.2 x (by simpa using hx)
    rw [hb] at this
    simp only [Bool.not_true, Bool.false_or] at this
    exact Nat.le_of_ble_eq_true this
  · have := (key i oi hi).1.2
    rw [h1] at this
    have := allI_spec this j oj (by simpa using hj)
    simp only [Nat.zero_add, h2, Nat.beq_refl, Bool.not_true, Bool.or_false] at this
    exact Nat.eq_of_beq_eq_true this
  · have := allB_spec (key i oi hi).2 t ht
    have := allI_spec this j oj (by simpa using hj)
    simp only [Nat.zero_add, hd, Nat.beq_refl, Bool.not_true, Bool.false_or, Bool.and_eq_true, Bool.or_eq_true] at this
    refine ⟨fun hlt => this.1.resolve_left fun hb => ?_, fun hlt => this.2.resolve_left fun hb => ?_⟩
    · have := Nat.le_of_ble_eq_true hb; omega
    · have := Nat.le_of_ble_eq_true hb; omega
theorem SOK.anc {ops : Array Oper} {A : List Nat} (h : SOK ops A) (i : Nat) (o : Oper) (ho : ops[i]? = some o) (j : Nat) (hj : bits A i j = true) : ∃ x ∈ o.after, Region.binds .any x = true ∧ (x.on = j ∨ bits A x.on j = true) := by
  unfold bits at hj
  rw [h.mask i o ho] at hj
  obtain ⟨x, h1, h2⟩ := orE_spec hj
  exact ⟨x, by simpa using h1, h2⟩
theorem SOK.lt {ops : Array Oper} {A : List Nat} (h : SOK ops A) : ∀ (i : Nat) (o : Oper), ops[i]? = some o → ∀ j, bits A i j = true → j < i := by
  intro i
  induction i using Nat.strongRecOn with
  | _ i ih =>
    intro o ho j hj
    obtain ⟨x, h1, h2, h3⟩ := h.anc i o ho j hj
    have hlt := h.edge i o ho x h1 h2
    rcases h3 with rfl | h3
    · exact hlt
    · have hsz : x.on < ops.size := by have := (Array.getElem?_eq_some_iff.1 ho).1; omega
      have := ih x.on hlt _ (Array.getElem?_eq_getElem hsz) j h3
      omega
noncomputable def upd {α : Type} (f : Nat → α) (i : Nat) (x : α) : Nat → α := fun j => match Nat.beq j i with
  | true => x
  | false => f j
theorem upd_same {α : Type} (f : Nat → α) (i : Nat) (x : α) : upd f i x i = x := by unfold upd; rw [Nat.beq_refl]
theorem upd_ne {α : Type} (f : Nat → α) {i j : Nat} (x : α) (h : j ≠ i) : upd f i x j = f j := by
  unfold upd
  cases hb : Nat.beq j i with
  | true => exact absurd (Nat.eq_of_beq_eq_true hb) h
  | false => rfl
noncomputable def puts (n0 : Nat) (l : List (Nat × Blk)) (h : Hp) : Hp := List.rec (motive := fun _ => Hp) h (fun p _ ih => ih.put (Nat.add n0 p.1) p.2) l
theorem puts_n (n0 : Nat) (h : Hp) : ∀ l, (puts n0 l h).n = h.n
  | [] => rfl
  | p :: l => puts_n n0 h l
theorem puts_none {n0 : Nat} {h : Hp} {id : Nat} : ∀ {l : List (Nat × Blk)}, (∀ p ∈ l, n0 + p.1 < 65536) → (∀ p ∈ l, id ≠ n0 + p.1) → (puts n0 l h).get id = h.get id
  | [], _, _ => rfl
  | p :: l, hb, hn => by
    show ((puts n0 l h).put (n0 + p.1) p.2).get id = _
    rw [Hp.get_put _ _ (hb p (List.mem_cons_self ..)), if_neg (hn p (List.mem_cons_self ..))]
    exact puts_none (fun q hq => hb q (List.mem_cons_of_mem _ hq)) fun q hq => hn q (List.mem_cons_of_mem _ hq)
theorem puts_some {n0 : Nat} {h : Hp} {j : Nat} {B : Blk} : ∀ {l : List (Nat × Blk)}, (∀ p ∈ l, n0 + p.1 < 65536) → (∀ p ∈ l, p.1 = j → p.2 = B) → (j, B) ∈ l → (puts n0 l h).get (n0 + j) = some B
  | [], _, _, hm => by cases hm
  | p :: l, hb, hf, hm => by
    show ((puts n0 l h).put (n0 + p.1) p.2).get (n0 + j) = _
    rw [Hp.get_put _ _ (hb p (List.mem_cons_self ..))]
    by_cases e : p.1 = j
    · rw [if_pos (by omega), hf p (List.mem_cons_self ..) e]
    · rw [if_neg (by omega)]
      refine puts_some (fun q hq => hb q (List.mem_cons_of_mem _ hq)) (fun q hq => hf q (List.mem_cons_of_mem _ hq)) ?_
      rcases List.mem_cons.1 hm with h1 | h1
      · exact absurd (by rw [← h1]) e
      · exact h1
/-- does an operation look into memory? -/
noncomputable def isL (o : Oper) : Bool := match o.op with
  | .load _ _ | .lookup _ _ _ _ | .convert _ _ _ | .call _ => true
  | .binOp op _ _ _ _ => match op with
    | .eql | .neq => true
    | _ => false
  | _ => false
theorem evV_free {P : Program} {C C' : Nat → Option Blk} {ρ : Operand → Option Value} {o : Oper} (h : isL o = false) : evV P C ρ o = evV P C' ρ o := by
  obtain ⟨dst, op, ty, pos, after, guard⟩ := o
  cases op <;> first | rfl | (cases h; done) | skip
  rename_i op t x y yt
  have hb : ∀ a b, binV P C op t x y a b = binV P C' op t x y a b := fun a b => by
    unfold binV
    cases op <;> first | (cases h; done) | (split <;> rfl)
  show (ob (ρ x) fun a => ob (ρ y) fun b => binV P C op t x y a b) = (ob (ρ x) fun a => ob (ρ y) fun b => binV P C' op t x y a b)
  simp only [hb]
end Go.Proofs.YtjkifbkehochoaaGreatDoor.Ev
namespace Go.Proofs.YtjkifbkehochoaaGreatDoor.Ev

structure DA where
  T : TT
  h : Hp
  q : Nat
  pend : List (Nat × Blk)
  es : List Nat
  val : Nat → Value
  rho : Nat → Operand → Option Value
  want : Nat → Bool
  kind : Nat → Knd
  e : Nat → Nat
  V : Nat → Hp
  I : Nat → Hp
  ins : Nat → Nat → Bool
noncomputable def opndR (s : St) (T : TT) (o : Oper) (x : Operand) : Option Value := match x with
  | .tmp t => match memN t (tmpsOf o) with
    | true => opnd ⟨T, s.k, s.h, s.D⟩ (.tmp t)
    | false => none
  | x => opnd s x
noncomputable def wantD (A : List Nat) (ops : List Oper) (val : Nat → Value) (i : Nat) (o : Oper) : Option Bool := match o.guard with
  | none => some true
  | some (g, b) => match bits A i g, nth ops g with
    | true, some p => match p.dst with
      | some _ => some (match val g with | .bool c => c == b | _ => false)
      | none => none
    | _, _ => none
noncomputable def putT (k : Nat) (T : TT) (d : Option Tmp) (v : Value) : Option TT := match d with
  | none => some T
  | some d => match Nat.ble (Nat.add d 1) k with
    | true => some (TT.set T d v)
    | false => none
noncomputable def DA.core (z : DA) (i : Nat) (T : TT) (ρ : Operand → Option Value) (w : Bool) (kd : Knd) (v : Value) : DA :=
  ⟨T, z.h, z.q, z.pend, z.es, upd z.val i v, upd z.rho i ρ, upd z.want i w, upd z.kind i kd, z.e, z.V, z.I, z.ins⟩
noncomputable def liveB (B : Blk) : Bool := match B with
  | .cells _ _ _ _ | .obj _ => true
  | _ => false
noncomputable def isAlloc (k : Knd) : Bool := match k with
  | .alloc _ _ => true
  | _ => false
noncomputable def DA.acts (z : DA) (A : List Nat) (i : Nat) (I h : Hp) : DA :=
  ⟨z.T, h, Nat.add z.q 1, z.pend.filter fun p => !(bits A i p.1), i :: z.es, z.val, z.rho, z.want, z.kind, upd z.e z.q i, upd z.V (Nat.add z.q 1) h, upd z.I z.q I, upd z.ins (Nat.add z.q 1) fun j => z.ins z.q j || (bits A i j && isAlloc (z.kind j))⟩
noncomputable def DA.holds (z : DA) (i : Nat) (B : Blk) : DA := ⟨z.T, z.h, z.q, (i, B) :: z.pend, z.es, z.val, z.rho, z.want, z.kind, z.e, z.V, z.I, z.ins⟩
noncomputable def stepD (P : Program) (X : FuncId → List Value → Option Value) (call : CallF) (A : List Nat) (ops : List Oper) (s : St) (n0 : Nat) (i : Nat) (o : Oper) (z : DA) : Option DA :=
  match wantD A ops z.val i o with
  | none => none
  | some false => ob (putT s.k z.T o.dst undef) fun T => some (z.core i T (opndR s z.T o) false .skip undef)
  | some true => match evV P (puts n0 z.pend z.h).get (opndR s z.T o) o with
    | some v => ob (putT s.k z.T o.dst v) fun T => some (z.core i T (opndR s z.T o) true .val v)
    | none => match evA P (opndR s z.T o) o with
      | some (B, mk) => match mk.ok && liveB B with
        | true => ob (putT s.k z.T o.dst (mk.val (Nat.add n0 i))) fun T => some ((z.core i T (opndR s z.T o) true (.alloc B mk) (mk.val (Nat.add n0 i))).holds i B)
        | false => none
      | none => match allB (fun e => bits A i e) z.es with
        | true => ob (evEff P X call (opndR s z.T o) o (puts n0 (z.pend.filter fun p => bits A i p.1) z.h)) fun r => ob (putT s.k z.T o.dst r.1) fun T =>
            some ((z.acts A i (puts n0 (z.pend.filter fun p => bits A i p.1) z.h) r.2).core i T (opndR s z.T o) true (.eff z.q) r.1)
        | false => none
/-- what concerns values -/
structure CI (ops : Array Oper) (s : St) (A : List Nat) (z : DA) (i : Nat) : Prop where
  cT : ∀ t v, t < s.k → z.T.get t = some v → (∃ (j : Nat) (oj : Oper), j < i ∧ ops[j]? = some oj ∧ oj.dst = some t ∧ v = z.val j) ∨ ((∀ (j : Nat) (oj : Oper), j < i → ops[j]? = some oj → oj.dst ≠ some t) ∧ s.T.get t = some v)
  cd : ∀ (j : Nat) (oj : Oper) d, j < i → ops[j]? = some oj → oj.dst = some d → d < s.k
  cr : ∀ (j : Nat) (o : Oper) t v, j < i → ops[j]? = some o → z.rho j (.tmp t) = some v → t < s.k ∧ t ∈ tmpsOf o ∧ ((∃ (j' : Nat) (oj : Oper), j' < j ∧ ops[j']? = some oj ∧ oj.dst = some t ∧ v = z.val j') ∨ ((∀ (j' : Nat) (oj : Oper), j' < j → ops[j']? = some oj → oj.dst ≠ some t) ∧ s.T.get t = some v))
  cr' : ∀ (j : Nat) (x : Operand) v, j < i → (∀ t, x ≠ .tmp t) → z.rho j x = some v → opnd s x = some v
  cw : ∀ (j : Nat) (o : Oper), j < i → ops[j]? = some o → (o.guard = none ∧ z.want j = true) ∨ ∃ (g : Nat) (b : Bool) (p : Oper) (d : Tmp), o.guard = some (g, b) ∧ ops[g]? = some p ∧ p.dst = some d ∧ bits A j g = true ∧ z.want j = (match z.val g with | .bool c => c == b | _ => false)
  cs : ∀ j, j < i → z.want j = false → z.kind j = .skip ∧ z.val j = undef
  ck : ∀ j, j < i → z.want j = true → z.kind j ≠ .skip
  c0 : ∀ (j : Nat) (x : Operand) v, i ≤ j → z.rho j x = some v → False
theorem putT_run {k : Nat} {T T' : TT} {d : Option Tmp} {v : Value} (hk : k ≤ 4096) (h : putT k T d v = some T') : (∀ t, d = some t → t < k) ∧ ∀ t, t < k → T'.get t = if d = some t then some v else T.get t := by
  unfold putT at h
  split at h
  · cases h
    exact ⟨fun t ht => (nomatch ht), fun t _ => (if_neg (fun he => nomatch he)).symm⟩
  · rename_i d
    split at h
    · rename_i hle
      cases h
      have hd : d < k := Nat.le_of_ble_eq_true hle
      refine ⟨fun t ht => by cases ht; exact hd, fun t ht => ?_⟩
      by_cases e : d = t
      · subst e; rw [if_pos rfl]; exact TT.get_same _ _ _ (Nat.lt_of_lt_of_le hd hk)
      · rw [if_neg (fun he => e (by cases he; rfl))]
        exact TT.get_ne _ _ _ _ (Nat.lt_of_lt_of_le hd hk) (Nat.lt_of_lt_of_le ht hk) e
    · cases h
theorem CI.core {ops : Array Oper} {s : St} {A : List Nat} (hS : SOK ops A) (hk : s.k ≤ 4096) {z : DA} {i : Nat} (h : CI ops s A z i) {o : Oper} (ho : ops[i]? = some o) {T : TT} {w : Bool} {kd : Knd} {v : Value} (hw : wantD A ops.toList z.val i o = some w) (hp : putT s.k z.T o.dst v = some T)
    (h0 : w = false → kd = .skip ∧ v = undef) (h1 : w = true → kd ≠ .skip) : CI ops s A (z.core i T (opndR s z.T o) w kd v) (i + 1) := by
  obtain ⟨p1, p2⟩ := putT_run hk hp
  have vn : ∀ j, j < i → (z.core i T (opndR s z.T o) w kd v).val j = z.val j := fun j hj => upd_ne _ _ (by omega)
  have vs : (z.core i T (opndR s z.T o) w kd v).val i = v := upd_same _ _ _
  have rn : ∀ j, j < i → (z.core i T (opndR s z.T o) w kd v).rho j = z.rho j := fun j hj => upd_ne _ _ (by omega)
  have rs : (z.core i T (opndR s z.T o) w kd v).rho i = opndR s z.T o := upd_same _ _ _
  have wn : ∀ j, j < i → (z.core i T (opndR s z.T o) w kd v).want j = z.want j := fun j hj => upd_ne _ _ (by omega)
  have ws : (z.core i T (opndR s z.T o) w kd v).want i = w := upd_same _ _ _
  have kn : ∀ j, j < i → (z.core i T (opndR s z.T o) w kd v).kind j = z.kind j := fun j hj => upd_ne _ _ (by omega)
  have ks : (z.core i T (opndR s z.T o) w kd v).kind i = kd := upd_same _ _ _
  refine ⟨fun t u ht hu => ?_, fun j oj d hj hoj hd => ?_, fun j oj t u hj hoj hr => ?_, fun j x u hj hx hr => ?_, fun j oj hj hoj => ?_, fun j hj hw' => ?_, fun j hj hw' => ?_, fun j x u hj hr => ?_⟩
  · replace hu : T.get t = some u := hu
    rw [p2 t ht] at hu
    split at hu
    · rename_i hd
      cases hu
      exact .inl ⟨i, o, by omega, ho, hd, vs.symm⟩
    · rename_i hd
      rcases h.cT t u ht hu with ⟨j, oj, a1, a2, a3, a4⟩ | ⟨a1, a2⟩
      · exact .inl ⟨j, oj, by omega, a2, a3, by rw [vn j a1]; exact a4⟩
      · refine .inr ⟨fun j oj hj hoj => ?_, a2⟩
        by_cases e : j = i
        · subst e; rw [ho] at hoj; cases hoj; exact hd
        · exact a1 j oj (by omega) hoj
  · by_cases e : j = i
    · subst e; rw [ho] at hoj; cases hoj; exact p1 d hd
    · exact h.cd j oj d (by omega) hoj hd
  · by_cases e : j = i
    · subst e
      rw [ho] at hoj
      cases hoj
      rw [rs] at hr
      unfold opndR at hr
      simp only at hr
      split at hr
      · rename_i hm
        unfold opnd at hr
        simp only at hr
        split at hr
        · rename_i hle
          have hle : t < s.k := Nat.le_of_ble_eq_true hle
          refine ⟨hle, memN_spec hm, ?_⟩
          rcases h.cT t u hle hr with ⟨j', oj, a1, a2, a3, a4⟩ | ⟨a1, a2⟩
          · exact .inl ⟨j', oj, a1, a2, a3, by rw [vn j' a1]; exact a4⟩
          · exact .inr ⟨a1, a2⟩
        · cases hr
      · cases hr
    · rw [rn j (by omega)] at hr
      obtain ⟨b1, b2, b3⟩ := h.cr j oj t u (by omega) hoj hr
      refine ⟨b1, b2, ?_⟩
      rcases b3 with ⟨j', oj', a1, a2, a3, a4⟩ | b3
      · exact .inl ⟨j', oj', a1, a2, a3, by rw [vn j' (by omega)]; exact a4⟩
      · exact .inr b3
  · by_cases e : j = i
    · subst e
      rw [rs] at hr
      cases x with
      | tmp t => exact absurd rfl (hx t)
      | const c => exact hr
      | func f => exact hr
      | global g => exact hr
    · rw [rn j (by omega)] at hr
      exact h.cr' j x u (by omega) hx hr
  · by_cases e : j = i
    · subst e
      rw [ho] at hoj
      cases hoj
      rw [ws]
      unfold wantD at hw
      split at hw
      · rename_i hg; cases hw; exact .inl ⟨hg, rfl⟩
      · rename_i g b hg
        split at hw
        · rename_i p hb hp'
          rw [nth_eq] at hp'
          split at hw
          · rename_i d hd
            cases hw
            refine .inr ⟨g, b, p, d, hg, by simpa using hp', hd, hb, ?_⟩
            rw [vn g (hS.lt j o ho g hb)]
          · cases hw
        · cases hw
    · rw [wn j (by omega)]
      rcases h.cw j oj (by omega) hoj with h2 | ⟨g, b, p, d, a1, a2, a3, a4, a5⟩
      · exact .inl h2
      · exact .inr ⟨g, b, p, d, a1, a2, a3, a4, by rw [vn g (by have := hS.lt j oj hoj g a4; omega)]; exact a5⟩
  · by_cases e : j = i
    · subst e; rw [ws] at hw'; rw [ks, vs]; exact h0 hw'
    · rw [wn j (by omega)] at hw'; rw [kn j (by omega), vn j (by omega)]; exact h.cs j (by omega) hw'
  · by_cases e : j = i
    · subst e; rw [ws] at hw'; rw [ks]; exact h1 hw'
    · rw [wn j (by omega)] at hw'; rw [kn j (by omega)]; exact h.ck j (by omega) hw'
  · refine h.c0 j x u (by omega) ?_
    rw [← hr]
    exact (congrFun (upd_ne z.rho (opndR s z.T o) (show j ≠ i by omega)) x).symm
end Go.Proofs.YtjkifbkehochoaaGreatDoor.Ev
namespace Go.Proofs.YtjkifbkehochoaaGreatDoor.Ev
/-- what concerns blocks -/
structure EI (P : Program) (X : FuncId → List Value → Option Value) (call : CallF) (ops : Array Oper) (n0 : Nat) (h0 : Hp) (A : List Nat) (z : DA) (i : Nat) : Prop where
  a1 : ∀ (j : Nat) (o : Oper) B mk, j < i → ops[j]? = some o → z.kind j = .alloc B mk → evA P (z.rho j) o = some (B, mk) ∧ mk.ok = true ∧ z.val j = mk.val (n0 + j)
  al : ∀ j B mk, z.kind j = .alloc B mk → Blk.live (some B)
  v1 : ∀ (j : Nat) (o : Oper), j < i → ops[j]? = some o → z.kind j = .val → ∃ C, evV P C (z.rho j) o = some (z.val j)
  k0 : ∀ j, i ≤ j → z.kind j = .skip
  e1 : ∀ (j : Nat) (o : Oper) q, j < i → ops[j]? = some o → z.kind j = .eff q → q < z.q ∧ z.e q = j ∧ evEff P X call (z.rho j) o (z.I q) = some (z.val j, z.V (q + 1))
  e2 : ∀ q, q < z.q → z.kind (z.e q) = .eff q ∧ z.e q < i
  es : ∀ q, q < z.q → z.e q ∈ z.es
  e3 : ∀ q q', q < q' → q' < z.q → bits A (z.e q') (z.e q) = true
  vq : z.V z.q = z.h
  v0 : z.V 0 = h0
  i0 : ∀ j, z.ins 0 j = false
  ia : ∀ q j, q < z.q → z.ins (q + 1) j = true → z.ins q j = true ∨ bits A (z.e q) j = true
  im : ∀ q j, q < z.q → z.ins q j = true → z.ins (q + 1) j = true
  inn : ∀ q, q < z.q → (z.I q).n = (z.V q).n
  ea : ∀ q j B mk, q < z.q → z.kind j = .alloc B mk → z.ins q j = false → z.ins (q + 1) j = true → (z.I q).get (n0 + j) = some B
  eb : ∀ q id, q < z.q → (∀ j, id = n0 + j → z.ins (q + 1) j = true → z.ins q j = true) → (z.I q).get id = (z.V q).get id
  p1 : ∀ j B, (j, B) ∈ z.pend ↔ (∃ mk, z.kind j = .alloc B mk) ∧ z.ins z.q j = false
  p2 : ∀ q j, q ≤ z.q → z.ins q j = true → ∃ B mk, z.kind j = .alloc B mk
section
variable {P : Program} {X : FuncId → List Value → Option Value} {call : CallF} {ops : Array Oper} {n0 : Nat} {h0 : Hp} {A : List Nat}
/-- an operation that touches no block -/
theorem EI.core {z : DA} {i : Nat} (h : EI P X call ops n0 h0 A z i) {T : TT} {ρ : Operand → Option Value} {w : Bool} {kd : Knd} {v : Value} {o : Oper} (ho : ops[i]? = some o) (hk : kd = .skip ∨ (kd = .val ∧ ∃ C, evV P C ρ o = some v)) :
    EI P X call ops n0 h0 A (z.core i T ρ w kd v) (i + 1) := by
  have vn : ∀ j, j ≠ i → (z.core i T ρ w kd v).val j = z.val j := fun j hj => upd_ne _ _ hj
  have vs : (z.core i T ρ w kd v).val i = v := upd_same _ _ _
  have rn : ∀ j, j ≠ i → (z.core i T ρ w kd v).rho j = z.rho j := fun j hj => upd_ne _ _ hj
  have rs : (z.core i T ρ w kd v).rho i = ρ := upd_same _ _ _
  have kn : ∀ j, j ≠ i → (z.core i T ρ w kd v).kind j = z.kind j := fun j hj => upd_ne _ _ hj
  have ks : (z.core i T ρ w kd v).kind i = kd := upd_same _ _ _
  have kall : ∀ j B mk, (z.core i T ρ w kd v).kind j = .alloc B mk ↔ z.kind j = .alloc B mk := fun j B mk => by
    by_cases e : j = i
    · subst e
      rw [ks, h.k0 j (Nat.le_refl _)]
      rcases hk with rfl | ⟨rfl, -⟩ <;> simp
    · rw [kn j e]
  refine ⟨fun j oj B mk hj hoj hkd => ?_, fun j B mk hkd => h.al j B mk ((kall j B mk).1 hkd), fun j oj hj hoj hkd => ?_, fun j hj => ?_, fun j oj q hj hoj hkd => ?_, fun q hq => ?_, h.es, h.e3, h.vq, h.v0, h.i0, h.ia, h.im, h.inn,
    fun q j B mk hq hkd => h.ea q j B mk hq ((kall j B mk).1 hkd), h.eb, fun j B => ?_, fun q j hq hi => ?_⟩
  · have hkd2 := (kall j B mk).1 hkd
    have e : j ≠ i := fun e => by rw [e, h.k0 i (Nat.le_refl _)] at hkd2; cases hkd2
    rw [rn j e, vn j e]
    exact h.a1 j oj B mk (by omega) hoj hkd2
  · by_cases e : j = i
    · subst e
      rw [ho] at hoj
      cases hoj
      rw [ks] at hkd
      rcases hk with rfl | ⟨-, C, hC⟩
      · cases hkd
      · exact ⟨C, by rw [rs, vs]; exact hC⟩
    · rw [kn j e] at hkd
      rw [rn j e, vn j e]
      exact h.v1 j oj (by omega) hoj hkd
  · rw [kn j (by omega)]; exact h.k0 j (by omega)
  · by_cases e : j = i
    · subst e
      rw [ks] at hkd
      rcases hk with rfl | ⟨rfl, -⟩ <;> cases hkd
    · rw [kn j e] at hkd
      rw [rn j e, vn j e]
      exact h.e1 j oj q (by omega) hoj hkd
  · obtain ⟨a, b⟩ := h.e2 q hq
    exact ⟨by show (z.core i T ρ w kd v).kind (z.e q) = _; rw [kn _ (show z.e q ≠ i by omega)]; exact a, by show z.e q < i + 1; omega⟩
  · show (j, B) ∈ z.pend ↔ _
    rw [h.p1 j B]
    constructor
    · rintro ⟨⟨mk, a⟩, b⟩; exact ⟨⟨mk, (kall j B mk).2 a⟩, b⟩
    · rintro ⟨⟨mk, a⟩, b⟩; exact ⟨⟨mk, (kall j B mk).1 a⟩, b⟩
  · obtain ⟨B, mk, a⟩ := h.p2 q j hq hi
    exact ⟨B, mk, (kall j B mk).2 a⟩
/-- one that makes a block -/
theorem EI.alloc {z : DA} {i : Nat} (h : EI P X call ops n0 h0 A z i) {T : TT} {ρ : Operand → Option Value} {w : Bool} {B : Blk} {mk : Mk} {o : Oper} (ho : ops[i]? = some o) (hA : evA P ρ o = some (B, mk)) (hm : mk.ok = true) (hl : Blk.live (some B)) :
    EI P X call ops n0 h0 A ((z.core i T ρ w (.alloc B mk) (mk.val (n0 + i))).holds i B) (i + 1) := by
  obtain ⟨z', hz'⟩ : ∃ z', z' = (z.core i T ρ w (.alloc B mk) (mk.val (n0 + i))).holds i B := ⟨_, rfl⟩
  have vn : ∀ j, j ≠ i → z'.val j = z.val j := fun j hj => by rw [hz']; exact upd_ne _ _ hj
  have vs : z'.val i = mk.val (n0 + i) := by rw [hz']; exact upd_same _ _ _
  have rn : ∀ j, j ≠ i → z'.rho j = z.rho j := fun j hj => by rw [hz']; exact upd_ne _ _ hj
  have rs : z'.rho i = ρ := by rw [hz']; exact upd_same _ _ _
  have kn : ∀ j, j ≠ i → z'.kind j = z.kind j := fun j hj => by rw [hz']; exact upd_ne _ _ hj
  have ks : z'.kind i = .alloc B mk := by rw [hz']; exact upd_same _ _ _
  have noins : ∀ q, q ≤ z.q → z.ins q i = false := fun q hq => by
    cases hb : z.ins q i with
    | false => rfl
    | true =>
      obtain ⟨B', mk', a⟩ := h.p2 q i hq hb
      rw [h.k0 i (Nat.le_refl _)] at a
      cases a
  rw [← hz']
  have f1 : z'.q = z.q := by rw [hz']; rfl
  have f2 : z'.e = z.e := by rw [hz']; rfl
  have f3 : z'.V = z.V := by rw [hz']; rfl
  have f4 : z'.I = z.I := by rw [hz']; rfl
  have f5 : z'.ins = z.ins := by rw [hz']; rfl
  have f6 : z'.h = z.h := by rw [hz']; rfl
  have f7 : z'.es = z.es := by rw [hz']; rfl
  have f8 : z'.pend = (i, B) :: z.pend := by rw [hz']; rfl
  refine ⟨fun j oj B' mk' hj hoj hkd => ?_, fun j B' mk' hkd => ?_, fun j oj hj hoj hkd => ?_, fun j hj => ?_, fun j oj q hj hoj hkd => ?_, fun q hq => ?_, by rw [f1, f2, f7]; exact h.es, by rw [f1, f2]; exact h.e3, by rw [f1, f3, f6]; exact h.vq, by rw [f3]; exact h.v0, by rw [f5]; exact h.i0,
    by rw [f1, f2, f5]; exact h.ia, by rw [f1, f5]; exact h.im, by rw [f1, f3, f4]; exact h.inn, fun q j B' mk' hq hkd h1 h2 => ?_, by rw [f1, f3, f4, f5]; exact h.eb, fun j B' => ?_, fun q j hq hi => ?_⟩
  · by_cases e : j = i
    · subst e
      rw [ho] at hoj
      cases hoj
      rw [ks] at hkd
      cases hkd
      exact ⟨by rw [rs]; exact hA, hm, vs⟩
    · rw [kn j e] at hkd
      rw [rn j e, vn j e]
      exact h.a1 j oj B' mk' (by omega) hoj hkd
  · by_cases e : j = i
    · subst e; rw [ks] at hkd; cases hkd; exact hl
    · rw [kn j e] at hkd; exact h.al j B' mk' hkd
  · by_cases e : j = i
    · subst e; rw [ks] at hkd; cases hkd
    · rw [kn j e] at hkd
      rw [rn j e, vn j e]
      exact h.v1 j oj (by omega) hoj hkd
  · rw [kn j (by omega)]; exact h.k0 j (by omega)
  · by_cases e : j = i
    · subst e; rw [ks] at hkd; cases hkd
    · rw [kn j e] at hkd
      rw [rn j e, vn j e, f1, f2, f3, f4]
      exact h.e1 j oj q (by omega) hoj hkd
  · rw [f1] at hq
    obtain ⟨a, b⟩ := h.e2 q hq
    rw [f2]
    exact ⟨by rw [kn _ (show z.e q ≠ i by omega)]; exact a, by omega⟩
  · rw [f1] at hq
    rw [f5] at h1 h2
    by_cases e : j = i
    · subst e; rw [noins (q + 1) hq] at h2; cases h2
    · rw [kn j e] at hkd
      rw [f4]
      exact h.ea q j B' mk' hq hkd h1 h2
  · rw [f8, List.mem_cons, h.p1 j B', f5, f1]
    by_cases e : j = i
    · subst e
      rw [ks, h.k0 j (Nat.le_refl _)]
      constructor
      · rintro (a | ⟨⟨mk', a⟩, -⟩)
        · cases a; exact ⟨⟨mk, rfl⟩, noins _ (Nat.le_refl _)⟩
        · cases a
      · rintro ⟨⟨mk', a⟩, -⟩
        cases a
        exact .inl rfl
    · rw [kn j e]
      constructor
      · rintro (a | a)
        · cases a; exact absurd rfl e
        · exact a
      · exact .inr
  · rw [f1] at hq
    rw [f5] at hi
    obtain ⟨B', mk', a⟩ := h.p2 q j hq hi
    have e : j ≠ i := fun e => by subst e; rw [h.k0 j (Nat.le_refl _)] at a; cases a
    exact ⟨B', mk', by rw [kn j e]; exact a⟩
end
end Go.Proofs.YtjkifbkehochoaaGreatDoor.Ev
namespace Go.Proofs.YtjkifbkehochoaaGreatDoor.Ev
section
variable {P : Program} {X : FuncId → List Value → Option Value} {call : CallF} {ops : Array Oper} {n0 : Nat} {h0 : Hp} {A : List Nat}
/-- one that acts -/
theorem EI.acts {z : DA} {i : Nat} (h : EI P X call ops n0 h0 A z i) (hb : n0 + ops.size ≤ 65536) {T : TT} {ρ : Operand → Option Value} {w : Bool} {v : Value} {o : Oper} {I h' : Hp} (ho : ops[i]? = some o)
    (hI : I = puts n0 (z.pend.filter fun p => bits A i p.1) z.h) (he : evEff P X call ρ o I = some (v, h')) (hes : ∀ e ∈ z.es, bits A i e = true) :
    EI P X call ops n0 h0 A ((z.acts A i I h').core i T ρ w (.eff z.q) v) (i + 1) := by
  obtain ⟨z', hz'⟩ : ∃ z', z' = (z.acts A i I h').core i T ρ w (.eff z.q) v := ⟨_, rfl⟩
  have hin : i < ops.size := (Array.getElem?_eq_some_iff.1 ho).1
  have vn : ∀ j, j ≠ i → z'.val j = z.val j := fun j hj => by rw [hz']; exact upd_ne _ _ hj
  have vs : z'.val i = v := by rw [hz']; exact upd_same _ _ _
  have rn : ∀ j, j ≠ i → z'.rho j = z.rho j := fun j hj => by rw [hz']; exact upd_ne _ _ hj
  have rs : z'.rho i = ρ := by rw [hz']; exact upd_same _ _ _
  have kn : ∀ j, j ≠ i → z'.kind j = z.kind j := fun j hj => by rw [hz']; exact upd_ne _ _ hj
  have ks : z'.kind i = .eff z.q := by rw [hz']; exact upd_same _ _ _
  have f1 : z'.q = z.q + 1 := by rw [hz']; rfl
  have en : ∀ q, q ≠ z.q → z'.e q = z.e q := fun q hq => by rw [hz']; exact upd_ne _ _ hq
  have es : z'.e z.q = i := by rw [hz']; exact upd_same _ _ _
  have Vn : ∀ q, q ≠ z.q + 1 → z'.V q = z.V q := fun q hq => by rw [hz']; exact upd_ne _ _ hq
  have Vs : z'.V (z.q + 1) = h' := by rw [hz']; exact upd_same _ _ _
  have In : ∀ q, q ≠ z.q → z'.I q = z.I q := fun q hq => by rw [hz']; exact upd_ne _ _ hq
  have Is : z'.I z.q = I := by rw [hz']; exact upd_same _ _ _
  have nn : ∀ q, q ≠ z.q + 1 → z'.ins q = z.ins q := fun q hq => by rw [hz']; exact upd_ne _ _ hq
  have ns : ∀ j, z'.ins (z.q + 1) j = (z.ins z.q j || (bits A i j && isAlloc (z.kind j))) := fun j => by
    have : z'.ins (z.q + 1) = fun j => z.ins z.q j || (bits A i j && isAlloc (z.kind j)) := by rw [hz']; exact upd_same _ _ _
    rw [this]
  have f6 : z'.h = h' := by rw [hz']; rfl
  have f7 : z'.es = i :: z.es := by rw [hz']; rfl
  have f8 : z'.pend = z.pend.filter fun p => !(bits A i p.1) := by rw [hz']; rfl
  have kall : ∀ j B mk, z'.kind j = .alloc B mk ↔ z.kind j = .alloc B mk := fun j B mk => by
    by_cases e : j = i
    · subst e; rw [ks, h.k0 j (Nat.le_refl _)]; simp
    · rw [kn j e]
  have pl : ∀ j B, (j, B) ∈ z.pend → n0 + j < 65536 := fun j B hm => by
    obtain ⟨⟨mk, hk⟩, -⟩ := (h.p1 j B).1 hm
    have : j < i := by
      rcases Nat.lt_or_ge j i with h1 | h1
      · exact h1
      · rw [h.k0 j h1] at hk; cases hk
    omega
  have plf : ∀ p ∈ (z.pend.filter fun p => bits A i p.1), n0 + p.1 < 65536 := fun p hp => pl p.1 p.2 (List.mem_filter.1 hp).1
  have isA : ∀ {j B mk}, z.kind j = .alloc B mk → isAlloc (z.kind j) = true := fun {j B mk} hk => by rw [hk]; rfl
  rw [← hz']
  clear hz'
  refine ⟨fun j oj B mk hj hoj hkd => ?_, fun j B mk hkd => h.al j B mk ((kall j B mk).1 hkd), fun j oj hj hoj hkd => ?_, fun j hj => ?_, fun j oj q hj hoj hkd => ?_, fun q hq => ?_, fun q hq => ?_, fun q q' hlt hq => ?_, by rw [f1, Vs, f6], by rw [Vn 0 (by omega)]; exact h.v0,
    fun j => by rw [nn 0 (by omega)]; exact h.i0 j, fun q j hq hi => ?_, fun q j hq hi => ?_, fun q hq => ?_, fun q j B mk hq hkd h1 h2 => ?_, fun q id hq hi => ?_, fun j B => ?_, fun q j hq hi => ?_⟩
  · have hkd2 := (kall j B mk).1 hkd
    have e : j ≠ i := fun e => by rw [e, h.k0 i (Nat.le_refl _)] at hkd2; cases hkd2
    rw [rn j e, vn j e]
    exact h.a1 j oj B mk (by omega) hoj hkd2
  · have e : j ≠ i := fun e => by rw [e, ks] at hkd; cases hkd
    rw [kn j e] at hkd
    rw [rn j e, vn j e]
    exact h.v1 j oj (by omega) hoj hkd
  · rw [kn j (by omega)]; exact h.k0 j (by omega)
  · by_cases e : j = i
    · subst e
      rw [ks] at hkd
      cases hkd
      rw [ho] at hoj
      cases hoj
      rw [f1, es, rs, Is, vs, Vs]
      exact ⟨by omega, rfl, he⟩
    · rw [kn j e] at hkd
      obtain ⟨a, b, c⟩ := h.e1 j oj q (by omega) hoj hkd
      rw [f1, rn j e, vn j e, en q (by omega), In q (by omega), Vn (q + 1) (by omega)]
      exact ⟨by omega, b, c⟩
  · rw [f1] at hq
    by_cases e : q = z.q
    · subst e; rw [es, ks]; exact ⟨rfl, by omega⟩
    · obtain ⟨a, b⟩ := h.e2 q (by omega)
      rw [en q e, kn _ (by omega)]
      exact ⟨a, by omega⟩
  · rw [f1] at hq
    rw [f7]
    by_cases e : q = z.q
    · subst e; rw [es]; exact List.mem_cons_self ..
    · rw [en q e]; exact List.mem_cons_of_mem _ (h.es q (by omega))
  · rw [f1] at hq
    rw [en q (by omega)]
    by_cases e : q' = z.q
    · subst e; rw [es]; exact hes _ (h.es q hlt)
    · rw [en q' e]; exact h.e3 q q' hlt (by omega)
  · rw [f1] at hq
    rw [nn q (by omega)]
    by_cases e : q = z.q
    · subst e
      rw [ns] at hi
      rw [es]
      rcases Bool.or_eq_true_iff.1 hi with h1 | h1
      · exact .inl h1
      · exact .inr (Bool.and_eq_true_iff.1 h1).1
    · rw [nn _ (by omega)] at hi
      rw [en q e]
      exact h.ia q j (by omega) hi
  · rw [f1] at hq
    rw [nn q (by omega)] at hi
    by_cases e : q = z.q
    · subst e; rw [ns, hi, Bool.true_or]
    · rw [nn _ (by omega)]; exact h.im q j (by omega) hi
  · rw [f1] at hq
    rw [Vn q (by omega)]
    by_cases e : q = z.q
    · subst e; rw [Is, hI, puts_n, h.vq]
    · rw [In q e]; exact h.inn q (by omega)
  · rw [f1] at hq
    rw [nn q (by omega)] at h1
    have hkd := (kall j B mk).1 hkd
    by_cases e : q = z.q
    · subst e
      rw [ns, h1, Bool.false_or] at h2
      rw [Is, hI]
      refine puts_some plf (fun p hp hpj => ?_) (List.mem_filter.2 ⟨(h.p1 j B).2 ⟨⟨mk, hkd⟩, h1⟩, (Bool.and_eq_true_iff.1 h2).1⟩)
      obtain ⟨⟨mk', hk'⟩, -⟩ := (h.p1 p.1 p.2).1 (List.mem_filter.1 hp).1
      rw [hpj, hkd] at hk'
      cases hk'
      rfl
    · rw [nn _ (by omega)] at h2
      rw [In q e]
      exact h.ea q j B mk (by omega) hkd h1 h2
  · rw [f1] at hq
    rw [Vn q (by omega)]
    rw [nn q (by omega)] at hi
    by_cases e : q = z.q
    · subst e
      rw [Is, hI, h.vq]
      refine puts_none plf fun p hp hid => ?_
      obtain ⟨a, b⟩ := List.mem_filter.1 hp
      obtain ⟨⟨mk', hk'⟩, c⟩ := (h.p1 p.1 p.2).1 a
      have := hi p.1 hid (by rw [ns, isA hk', Bool.and_true]; rw [show bits A i p.1 = true from b, Bool.or_true])
      rw [c] at this
      cases this
    · rw [nn _ (by omega)] at hi
      rw [In q e]
      exact h.eb q id (by omega) hi
  · rw [f8, List.mem_filter, h.p1 j B, f1, ns]
    constructor
    · rintro ⟨⟨⟨mk, a⟩, b⟩, c⟩
      exact ⟨⟨mk, (kall j B mk).2 a⟩, by rw [b, Bool.false_or]; simp only [Bool.not_eq_true'] at c; rw [c]; rfl⟩
    · rintro ⟨⟨mk, a⟩, b⟩
      have a := (kall j B mk).1 a
      rw [Bool.or_eq_false_iff, isA a, Bool.and_true] at b
      exact ⟨⟨⟨mk, a⟩, b.1⟩, by simp only [b.2, Bool.not_false]⟩
  · rw [f1] at hq
    by_cases e : q = z.q + 1
    · subst e
      rw [ns] at hi
      rcases Bool.or_eq_true_iff.1 hi with h1 | h1
      · obtain ⟨B, mk, a⟩ := h.p2 z.q j (Nat.le_refl _) h1
        exact ⟨B, mk, (kall j B mk).2 a⟩
      · have h2 := (Bool.and_eq_true_iff.1 h1).2
        unfold isAlloc at h2
        split at h2
        · rename_i B mk hk; exact ⟨B, mk, (kall j B mk).2 hk⟩
        · cases h2
    · rw [nn q e] at hi
      obtain ⟨B, mk, a⟩ := h.p2 q j (by omega) hi
      exact ⟨B, mk, (kall j B mk).2 a⟩
end
end Go.Proofs.YtjkifbkehochoaaGreatDoor.Ev
namespace Go.Proofs.YtjkifbkehochoaaGreatDoor.Ev
theorem liveB_spec {B : Blk} (h : liveB B = true) : Blk.live (some B) := by
  unfold liveB at h
  unfold Blk.live
  split at h
  · trivial
  · trivial
  · cases h
section
variable {P : Program} {X : FuncId → List Value → Option Value} {call : CallF} {ops : Array Oper} {s : St} {n0 : Nat} {h0 : Hp} {A : List Nat}
theorem CI.acts {z : DA} {i j : Nat} {I h' : Hp} (h : CI ops s A z i) : CI ops s A (z.acts A j I h') i := ⟨h.cT, h.cd, h.cr, h.cr', h.cw, h.cs, h.ck, h.c0⟩
theorem CI.holds {z : DA} {i j : Nat} {B : Blk} (h : CI ops s A z i) : CI ops s A (z.holds j B) i := ⟨h.cT, h.cd, h.cr, h.cr', h.cw, h.cs, h.ck, h.c0⟩
theorem stepD_ok (hS : SOK ops A) (hk : s.k ≤ 4096) (hb : n0 + ops.size ≤ 65536) {z z' : DA} {i : Nat} {o : Oper} (ho : ops[i]? = some o) (hc : CI ops s A z i) (he : EI P X call ops n0 h0 A z i) (h : stepD P X call A ops.toList s n0 i o z = some z') :
    CI ops s A z' (i + 1) ∧ EI P X call ops n0 h0 A z' (i + 1) := by
  unfold stepD at h
  split at h
  · cases h
  · rename_i hw
    obtain ⟨T, h1, h2⟩ := ob_some h
    cases h2
    exact ⟨hc.core hS hk ho hw h1 (fun _ => ⟨rfl, rfl⟩) (fun x => nomatch x), he.core ho (.inl rfl)⟩
  · rename_i hw
    split at h
    · rename_i v hv
      obtain ⟨T, h1, h2⟩ := ob_some h
      cases h2
      exact ⟨hc.core hS hk ho hw h1 (fun x => nomatch x) (fun _ x => nomatch x), he.core ho (.inr ⟨rfl, _, hv⟩)⟩
    · split at h
      · rename_i B mk hA
        split at h
        · rename_i hm
          obtain ⟨m1, m2⟩ := Bool.and_eq_true_iff.1 hm
          obtain ⟨T, h1, h2⟩ := ob_some h
          cases h2
          exact ⟨(hc.core (kd := .alloc B mk) hS hk ho hw h1 (fun x => nomatch x) (fun _ x => nomatch x)).holds, he.alloc ho hA m1 (liveB_spec m2)⟩
        · cases h
      · split at h
        · rename_i hes
          obtain ⟨r, h1, h2⟩ := ob_some h
          obtain ⟨T, h3, h4⟩ := ob_some h2
          cases h4
          obtain ⟨v, h'⟩ := r
          exact ⟨CI.core hS hk hc.acts ho hw h3 (fun x => nomatch x) (fun _ x => nomatch x), he.acts hb ho rfl h1 (allB_spec hes)⟩
        · cases h
noncomputable def runD (P : Program) (X : FuncId → List Value → Option Value) (call : CallF) (A : List Nat) (ops : List Oper) (s : St) (n0 : Nat) (l : List Oper) : Nat → DA → Option DA :=
  List.rec (motive := fun _ => Nat → DA → Option DA) (fun _ z => some z) (fun o _ ih i z => ob (stepD P X call A ops s n0 i o z) fun z => ih (Nat.add i 1) z) l
theorem runD_ok (hS : SOK ops A) (hk : s.k ≤ 4096) (hb : n0 + ops.size ≤ 65536) : ∀ (l : List Oper) (i : Nat) (z z' : DA), (∀ (j : Nat) o, l[j]? = some o → ops[i + j]? = some o) → CI ops s A z i → EI P X call ops n0 h0 A z i → runD P X call A ops.toList s n0 l i z = some z' →
    CI ops s A z' (i + l.length) ∧ EI P X call ops n0 h0 A z' (i + l.length)
  | [], i, z, z', _, hc, he, h => by cases h; exact ⟨hc, he⟩
  | o :: l, i, z, z', hl, hc, he, h => by
    obtain ⟨z1, h1, h2⟩ := ob_some (show ob (stepD P X call A ops.toList s n0 i o z) (fun z => runD P X call A ops.toList s n0 l (i + 1) z) = some z' from h)
    obtain ⟨c1, c2⟩ := stepD_ok hS hk hb (hl 0 o rfl) hc he h1
    have := runD_ok hS hk hb l (i + 1) z1 z' (fun j p hp => by rw [show i + 1 + j = i + (j + 1) by omega]; exact hl (j + 1) p (by simpa using hp)) c1 c2 h2
    rw [show i + (o :: l).length = i + 1 + l.length by simp; omega]
    exact this
noncomputable def initD (s : St) (h0 : Hp) : DA := ⟨s.T, h0, 0, [], [], fun _ => undef, fun _ _ => none, fun _ => true, fun _ => .skip, fun _ => 0, fun _ => h0, fun _ => h0, fun _ _ => false⟩
theorem CI.init {h0 : Hp} : CI ops s A (initD s h0) 0 :=
  ⟨fun t v ht hv => .inr ⟨fun j oj hj => by omega, hv⟩, fun j _ _ hj => by omega, fun j _ _ _ hj => by omega, fun j _ _ hj => by omega, fun j _ hj => by omega, fun j hj => by omega, fun j hj => by omega, fun j x v _ h => (by cases h)⟩
theorem EI.init {h0 : Hp} : EI P X call ops n0 h0 A (initD s h0) 0 where
  a1 := fun j _ _ _ hj => by omega
  al := fun j B mk hk => by cases hk
  v1 := fun j _ hj => by omega
  k0 := fun j _ => rfl
  e1 := fun j _ _ hj => by omega
  e2 := fun q hq => absurd hq (Nat.not_lt_zero _)
  es := fun q hq => absurd hq (Nat.not_lt_zero _)
  e3 := fun q q' h1 hq => absurd hq (Nat.not_lt_zero _)
  vq := rfl
  v0 := rfl
  i0 := fun j => rfl
  ia := fun q j hq => absurd hq (Nat.not_lt_zero _)
  im := fun q j hq => absurd hq (Nat.not_lt_zero _)
  inn := fun q hq => absurd hq (Nat.not_lt_zero _)
  ea := fun q j B mk hq => absurd hq (Nat.not_lt_zero _)
  eb := fun q id hq => absurd hq (Nat.not_lt_zero _)
  p1 := fun j B => ⟨fun h => (by cases h), fun ⟨⟨_, h⟩, _⟩ => (by cases h)⟩
  p2 := fun q j hq h => by cases h
end
end Go.Proofs.YtjkifbkehochoaaGreatDoor.Ev
namespace Go.Proofs.YtjkifbkehochoaaGreatDoor.Ev
/-- equality of values, by reckoning -/
noncomputable def bytesB (l : List UInt8) : List UInt8 → Bool := List.rec (motive := fun _ => List UInt8 → Bool)
  (fun m => List.casesOn m true fun _ _ => false)
  (fun a _ ih m => List.casesOn m false fun b m => match Nat.beq a.toNat b.toNat with | true => ih m | false => false) l
theorem bytesB_spec : ∀ {l m : List UInt8}, bytesB l m = true → l = m
  | [], [], _ => rfl
  | [], b :: m, h => by cases h
  | a :: l, [], h => by cases h
  | a :: l, b :: m, h => by
    replace h : (match Nat.beq a.toNat b.toNat with | true => bytesB l m | false => false) = true := h
    split at h
    · rename_i hb
      rw [UInt8.toNat_inj.1 (Nat.eq_of_beq_eq_true hb), bytesB_spec h]
    · cases h
noncomputable def addrB (a b : Option Addr) : Bool := match a, b with
  | none, none => true
  | some x, some y => match x.spot, y.spot with
    | none, none => Nat.beq x.block y.block && Nat.beq x.off y.off
    | some p, some q => Nat.beq x.block y.block && Nat.beq x.off y.off && Nat.beq p q
    | _, _ => false
  | _, _ => false
theorem addrB_spec {a b : Option Addr} (h : addrB a b = true) : a = b := by
  unfold addrB at h
  split at h
  · rfl
  · rename_i x y
    obtain ⟨xb, xo, xs⟩ := x
    obtain ⟨yb, yo, ys⟩ := y
    simp only at h
    split at h
    · simp only [Bool.and_eq_true, Nat.beq_eq] at h
      rw [h.1, h.2]
    · simp only [Bool.and_eq_true, Nat.beq_eq] at h
      rw [h.1.1, h.1.2, h.2]
    · cases h
  · cases h
noncomputable def listB (f : Value → Value → Bool) (l : List Value) : List Value → Bool := List.rec (motive := fun _ => List Value → Bool)
  (fun m => List.casesOn m true fun _ _ => false)
  (fun a _ ih m => List.casesOn m false fun b m => match f a b with | true => ih m | false => false) l
theorem listB_spec {f : Value → Value → Bool} (hf : ∀ a b, f a b = true → a = b) : ∀ {l m : List Value}, listB f l m = true → l = m
  | [], [], _ => rfl
  | [], b :: m, h => by cases h
  | a :: l, [], h => by cases h
  | a :: l, b :: m, h => by
    replace h : (match f a b with | true => listB f l m | false => false) = true := h
    split at h
    · rename_i hb
      rw [hf _ _ hb, listB_spec hf h]
    · cases h
noncomputable def veq (n : Nat) : Value → Value → Bool := Nat.rec (motive := fun _ => Value → Value → Bool) (fun _ _ => false) (fun _ ih a b => match a with
  | .bool x => (match b with | .bool y => x == y | _ => false)
  | .int k x => (match b with | .int k' y => decide (k = k') && decide (x = y) | _ => false)
  | .float k x => (match b with | .float k' y => decide (k = k') && Nat.beq x y | _ => false)
  | .string x => (match b with | .string y => bytesB x.data.toList y.data.toList | _ => false)
  | .pointer x => (match b with | .pointer y => addrB x y | _ => false)
  | .slice x l c => (match b with | .slice y l' c' => addrB x y && Nat.beq l l' && Nat.beq c c' | _ => false)
  | .map (some x) => (match b with | .map (some y) => Nat.beq x y | _ => false)
  | .map none => (match b with | .map none => true | _ => false)
  | .func f x y => (match b with | .func f' x' y' => decide (f = f') && listB ih x.toList x'.toList && listB ih y.toList y'.toList | _ => false)
  | .nilFunc => (match b with | .nilFunc => true | _ => false)
  | .nilIface => (match b with | .nilIface => true | _ => false)
  | .iface t x => (match b with | .iface t' y => Nat.beq t t' && ih x y | _ => false)
  | .agg x => (match b with | .agg y => listB ih x.toList y.toList | _ => false)
  | .tuple x => (match b with | .tuple y => listB ih x.toList y.toList | _ => false)
  | _ => false) n
theorem veq_spec : ∀ {n : Nat} {a b : Value}, veq n a b = true → a = b
  | 0, _, _, h => by cases h
  | n + 1, a, b, h => by
    have ih : ∀ a b, veq n a b = true → a = b := fun a b h => veq_spec h
    have arr : ∀ {x y : Array Value}, listB (veq n) x.toList y.toList = true → x = y := fun {x y} h => Array.toList_inj.1 (listB_spec ih h)
    cases a with
    | bool x => cases b <;> first | (cases h; done) | (rw [eq_of_beq (show (x == _) = true from h)])
    | int k x => cases b <;> first | (cases h; done) | (obtain ⟨h1, h2⟩ := Bool.and_eq_true_iff.1 h; rw [of_decide_eq_true h1, of_decide_eq_true h2])
    | float k x => cases b <;> first | (cases h; done) | (obtain ⟨h1, h2⟩ := Bool.and_eq_true_iff.1 h; rw [of_decide_eq_true h1, Nat.eq_of_beq_eq_true h2])
    | string x =>
      cases b <;> first | (cases h; done) | skip
      rename_i y
      have := Array.toList_inj.1 (bytesB_spec h)
      obtain ⟨x⟩ := x
      obtain ⟨y⟩ := y
      simp only at this
      rw [this]
    | pointer x => cases b <;> first | (cases h; done) | (rw [addrB_spec h])
    | slice x l c => cases b <;> first | (cases h; done) | (obtain ⟨h1, h2⟩ := Bool.and_eq_true_iff.1 h; obtain ⟨h1, h3⟩ := Bool.and_eq_true_iff.1 h1; rw [addrB_spec h1, Nat.eq_of_beq_eq_true h2, Nat.eq_of_beq_eq_true h3])
    | map x =>
      cases b <;> first | (cases x <;> cases h; done) | skip
      rename_i y
      cases x <;> cases y <;> first | rfl | (cases h; done) | (rw [Nat.eq_of_beq_eq_true h])
    | func f x y => cases b <;> first | (cases h; done) | (obtain ⟨h1, h2⟩ := Bool.and_eq_true_iff.1 h; obtain ⟨h1, h3⟩ := Bool.and_eq_true_iff.1 h1; rw [of_decide_eq_true h1, arr h2, arr h3])
    | nilFunc => cases b <;> first | rfl | (cases h; done)
    | nilIface => cases b <;> first | rfl | (cases h; done)
    | iface t x => cases b <;> first | (cases h; done) | (obtain ⟨h1, h2⟩ := Bool.and_eq_true_iff.1 h; rw [Nat.eq_of_beq_eq_true h1, ih _ _ h2])
    | agg x => cases b <;> first | (cases h; done) | (rw [arr h])
    | tuple x => cases b <;> first | (cases h; done) | (rw [arr h])
    | complex => cases h
    | chan => cases h
end Go.Proofs.YtjkifbkehochoaaGreatDoor.Ev
