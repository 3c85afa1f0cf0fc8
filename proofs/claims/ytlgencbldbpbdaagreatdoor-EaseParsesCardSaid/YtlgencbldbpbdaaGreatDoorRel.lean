/- A region that draws its order, walked once, in the order of the text, where an operation may leave any value of a set (a NaN's bits are drawn from the tape; a callee's contract tells a set): whatever order is drawn, the frame that is left is one that the lexical walk speaks of. -/
import Derived.StillTail
import Derived.Below
namespace Go.Proofs.YtlgencbldbpbdaaGreatDoor
open Go
section
variable {P : Program} {ops : Array Oper} {md : Region.Mode} {C : World → Prop} {G : FuncId → Array Value → Value → Prop}
def mayLeave (P : Program) (C : World → Prop) (G : FuncId → Array Value → Value → Prop) (s : Sem Next) (v : Value) : Prop :=
 ∃ w, C w ∧ match s.run P w with
   | .ok (.value u) _ => v = u
   | .ok .skip _ => v = undef
   | .ok (.enter f args) _ => G f args v
   | _ => False
def goesOn (P : Program) (C : World → Prop) (G : FuncId → Array Value → Value → Prop) (s : Sem Next) : Prop :=
 ∀ w, C w → match s.run P w with
   | .ok (.value _) w' => C w'
   | .ok .skip w' => C w'
   | .ok (.enter f args) w' => Calls P f args w' (fun e w'' => ∃ v, e = .returned v ∧ G f args v ∧ C w'')
   | _ => False
def opRel (P : Program) (C : World → Prop) (G : FuncId → Array Value → Value → Prop) (o : Oper) (a : Act) (K : Act → Prop) : Prop :=
 goesOn P C G (execOp a.eval o) ∧ ∀ v, mayLeave P C G (execOp a.eval o) v → K (a.put o.dst v)
def wpRel (P : Program) (ops : Array Oper) (C : World → Prop) (G : FuncId → Array Value → Value → Prop) (Q : Act → Prop) : List Oper → Act → Prop
 | [], a => Q a
 | o :: rest, a => if Region.wanted o (yielded ops a.tmps) then opRel P C G o a (wpRel P ops C G Q rest) else wpRel P ops C G Q rest (a.put o.dst undef)
def rOp (P : Program) (ops : Array Oper) (C : World → Prop) (G : FuncId → Array Value → Value → Prop) (i : Nat) (K : Act → Prop) (a : Act) : Prop :=
 match ops[i]? with
 | none => K a
 | some o => if Region.wanted o (yielded ops a.tmps) then opRel P C G o a K else K (a.put o.dst undef)
def wpAnyR (P : Program) (md : Region.Mode) (ops : Array Oper) (C : World → Prop) (G : FuncId → Array Value → Value → Prop) (n : Nat) (L : Array Bool → Act → Prop) : Nat → Array Bool → Act → Prop
 | 0, listed, a => L listed a
 | f + 1, listed, a => Region.ready md ops listed ≠ [] ∧ ∀ i ∈ Region.ready md ops listed, i < n ∧ rOp P ops C G i (wpAnyR P md ops C G n L f (listed.setIfInBounds i true)) a
theorem wp_of_opRel {o : Oper} {a : Act} {K : Act → Prop} {K' : Act → World → Prop} {Q' : Exit → Act → World → Prop} {w : World} (hw : C w) (h : ∀ a w', C w' → K a → K' a w')
  (hh : opRel P C G o a K) : o.wp P a w K' Q' := by
 obtain ⟨h1, h2⟩ := hh
 have h3 := h1 w hw
 have h4 : ∀ v, _ → K (a.put o.dst v) := fun v hv => h2 v ⟨w, hw, hv⟩
 unfold Oper.wp
 generalize (execOp a.eval o).run P w = r at *
 cases r with
 | ok n w' =>
   cases n <;> simp only [Oper.upon] at h3 h4 ⊢
   case value u => exact h _ _ h3 (h4 u rfl)
   case skip => exact h _ _ h3 (h4 _ rfl)
   case enter f args =>
    exact h3.mono fun e w'' ⟨v, he, hg, hw''⟩ => by subst he; exact h _ _ hw'' (h4 v hg)
 | halt x w' => exact absurd h3 id
theorem wpOp_of_rOp {i : Nat} {a : Act} {K : Act → Prop} {K' : Act → World → Prop} {Q' : Exit → Act → World → Prop} {w : World} (hC : C w) (h : ∀ a w', C w' → K a → K' a w')
  (hh : rOp P ops C G i K a) : wpOp P ops Q' i K' a w := by
 unfold rOp at hh
 unfold wpOp
 split
 ·rename_i ho; simp only [ho] at hh; exact h _ _ hC hh
 ·rename_i o ho
  simp only [ho] at hh
  split
  ·rename_i hw; simp only [hw, if_true] at hh; exact .inl (wp_of_opRel hC h hh)
  ·rename_i hw; simp only [hw] at hh; exact h _ _ hC hh
theorem wpAny_of_rel {n g : Nat} {L : Array Bool → Act → Prop} {Q' : Exit → Act → World → Prop} (hL : ∀ listed a w, C w → L listed a → wpAny P md ops Q' g listed a w) :
  ∀ (f : Nat) (listed : Array Bool) (a : Act) (w : World), C w → wpAnyR P md ops C G n L f listed a → wpAny P md ops Q' (f + g) listed a w
 | 0, listed, a, w, hw, h => by rw [Nat.zero_add]; exact hL _ _ _ hw h
 | f + 1, listed, a, w, hw, h => by
  rw [show f + 1 + g = (f + g) + 1 by omega]
  exact ⟨fun h0 => absurd h0 h.1, fun i hi => wpOp_of_rOp hw (fun a' w' hw' h' => wpAny_of_rel hL f _ a' w' hw' h') (h.2 i hi).2⟩
def leaves (P : Program) (ops : Array Oper) (C : World → Prop) (G : FuncId → Array Value → Value → Prop) (o : Oper) (a : Act) (v : Value) : Prop :=
 if Region.wanted o (yielded ops a.tmps) then mayLeave P C G (execOp a.eval o) v else v = undef
def goesIn (P : Program) (ops : Array Oper) (C : World → Prop) (G : FuncId → Array Value → Value → Prop) (o : Oper) (a : Act) : Prop :=
 Region.wanted o (yielded ops a.tmps) = true → goesOn P C G (execOp a.eval o)
theorem leaves_some {o : Oper} {a : Act} (hC : ∃ w, C w) (h : goesIn P ops C G o a) : ∃ v, leaves P ops C G o a v := by
 unfold leaves
 by_cases hw : Region.wanted o (yielded ops a.tmps) = true
 ·simp only [hw, if_true]
  obtain ⟨w, hc⟩ := hC
  have h1 := h hw w hc
  unfold mayLeave
  generalize hr : (execOp a.eval o).run P w = r at h1
  cases r with
  | ok n w' =>
    cases n <;> first | (exact absurd h1 id) | skip
    case value u => exact ⟨u, w, hc, by rw [hr]⟩
    case skip => exact ⟨undef, w, hc, by rw [hr]⟩
    case enter f args =>
     obtain ⟨e, w'', _, ⟨v, _, hg, _⟩, _⟩ := h1 []
     exact ⟨v, w, hc, by rw [hr]; exact hg⟩
  | halt x w' => exact absurd h1 id
 ·simp only [hw]; exact ⟨undef, rfl⟩
theorem rOp_iff {i : Nat} {o : Oper} {a : Act} {K : Act → Prop} (hi : ops[i]? = some o) : rOp P ops C G i K a ↔ goesIn P ops C G o a ∧ ∀ v, leaves P ops C G o a v → K (a.put o.dst v) := by
 unfold rOp goesIn leaves opRel
 simp only [hi]
 by_cases hw : Region.wanted o (yielded ops a.tmps) = true
 ·simp [hw]
 ·simp [hw]
theorem wpAnyR_first {n i : Nat} {oi : Oper} {L : Array Bool → Act → Prop} (hC : ∃ w, C w) (hi : ops[i]? = some oi) (hsel : ∀ (j : Nat) (o : Oper) cs b, ops[j]? = some o → o.op ≠ .select cs b)
  (hT : ∀ listed, HeadInv md ops n listed → ∀ i, i < n → listed.getD i true = false → ∀ t, n ≤ t → t ∉ Region.ready md ops listed) (hin : i < n)
  (hdone : ∀ listed a, L listed a → ∀ j ∈ Region.ready md ops listed, n ≤ j) :
  ∀ (f : Nat) (listed : Array Bool) (a : Act), HeadInv md ops n listed →
    (∀ j oj, ops[j]? = some oj → j ≠ i → listed.getD j true = false → (∀ e ∈ oj.after, Region.binds md e = true → e.on ≠ i) → oi.apart ops oj = true) →
    i ∈ Region.ready md ops listed → goesIn P ops C G oi a →
    (∀ v, leaves P ops C G oi a v → wpAnyR P md ops C G n L f (listed.setIfInBounds i true) (a.put oi.dst v)) → wpAnyR P md ops C G n L (f + 1) listed a := by
 intro f
 induction f with
 | zero =>
   intro listed a inv _ hr hg H
   have hun := (mem_ready.1 hr).1
   refine ⟨fun h => (by rw [h] at hr; cases hr), fun j hj => ?_⟩
   have hjn : j < n := by
    rcases Nat.lt_or_ge j n with h | h
    ·exact h
    ·exact absurd hj (hT _ inv i hin hun j h)
   refine ⟨hjn, ?_⟩
   by_cases hji : j = i
   ·subst hji; exact (rOp_iff hi).2 ⟨hg, H⟩
   ·obtain ⟨v, hv⟩ := leaves_some hC hg
    have := hdone _ _ (H v hv) j (ready_mono hj hji)
    omega
 | succ f ih =>
   intro listed a inv hfree hr hg H
   have hun := (mem_ready.1 hr).1
   refine ⟨fun h => (by rw [h] at hr; cases hr), fun j hj => ?_⟩
   have hjn : j < n := by
    rcases Nat.lt_or_ge j n with h | h
    ·exact h
    ·exact absurd hj (hT _ inv i hin hun j h)
   refine ⟨hjn, ?_⟩
   by_cases hji : j = i
   ·subst hji; exact (rOp_iff hi).2 ⟨hg, H⟩
   ·obtain ⟨hjun, oj, hoj, hall⟩ := mem_ready.1 hj
    have hnot : ∀ e ∈ oj.after, Region.binds md e = true → e.on ≠ i := fun e he hb heq => by
     have h1 := hall e he hb
     rw [heq, getD_both hun] at h1
     cases h1
    have hap := hfree j oj hoj hji hjun hnot
    obtain ⟨d1, d2, d3⟩ := Oper.apart_spec hap
    have hsi := fun cs b => hsel i oi cs b hi
    have hsj := fun cs b => hsel j oj cs b hoj
    -- the one makes no difference to the other
    have sj : ∀ v u, leaves P ops C G oj (a.put oi.dst v) u ↔ leaves P ops C G oj a u := fun v u => by
     unfold leaves; rw [execOp_put oj hsj a oi.dst v d1, wanted_put oj a oi.dst v d1]
    have gj : ∀ v, goesIn P ops C G oj (a.put oi.dst v) ↔ goesIn P ops C G oj a := fun v => by
     unfold goesIn; rw [execOp_put oj hsj a oi.dst v d1, wanted_put oj a oi.dst v d1]
    have si : ∀ u v, leaves P ops C G oi (a.put oj.dst u) v ↔ leaves P ops C G oi a v := fun u v => by
     unfold leaves; rw [execOp_put oi hsi a oj.dst u d3, wanted_put oi a oj.dst u d3]
    have gi : ∀ u, goesIn P ops C G oi (a.put oj.dst u) ↔ goesIn P ops C G oi a := fun u => by
     unfold goesIn; rw [execOp_put oi hsi a oj.dst u d3, wanted_put oi a oj.dst u d3]
    have hj2 := fun v hv => (rOp_iff hoj).1 (((H v hv).2 j (ready_mono hj hji)).2)
    obtain ⟨v0, hv0⟩ := leaves_some hC hg
    refine (rOp_iff hoj).2 ⟨(gj v0).1 (hj2 v0 hv0).1, fun u hu => ?_⟩
    have hfree' : ∀ k ok, ops[k]? = some ok → k ≠ i → (listed.setIfInBounds j true).getD k true = false →
      (∀ e ∈ ok.after, Region.binds md e = true → e.on ≠ i) → oi.apart ops ok = true := fun k ok hk hki hun hno => by
     refine hfree k ok hk hki ?_ hno
     by_cases hjk : j = k
     ·subst hjk; exact hjun
     ·rw [getD_set_ne true hjk] at hun; exact hun
    refine ih (listed.setIfInBounds j true) (a.put oj.dst u) (inv.set hj hjn) hfree' (ready_mono hr (Ne.symm hji)) ((gi u).2 hg) fun v hv => ?_
    have hv' := (si u v).1 hv
    have := (hj2 v hv').2 u ((sj v u).2 hu)
    rw [Array.setIfInBounds_comm _ _ hji, ← Act.put_comm a v u d2]
    exact this
theorem wpAnyR_lex {n g : Nat} {Lq : Act → Prop} (hC : ∃ w, C w) (hsel : Region.noSelect ops = true)
  (hT : ∀ listed, HeadInv md ops n listed → ∀ i, i < n → listed.getD i true = false → ∀ t, n ≤ t → t ∉ Region.ready md ops listed) :
  ∀ (l : List Oper) (k : Nat) (listed : Array Bool) (a : Act), (∀ j, j < l.length → l[j]? = ops[k + j]?) → k + l.length = n → HeadInv md ops n listed →
  Region.lexHead md ops g l.length k listed = true → wpRel P ops C G Lq l a →
  wpAnyR P md ops C G n (fun listed' a' => Region.seqB md ops g n listed' = true ∧ Lq a') l.length listed a
 | [], k, listed, a, _, hk, _, hB, h => by
  have : k = n := by simpa using hk
  subst this
  exact ⟨by simpa [Region.lexHead] using hB, h⟩
 | o :: l, k, listed, a, hl, hk, inv, hB, h => by
  have h0 : ops[k]? = some o := by simpa using (hl 0 (by simp)).symm
  simp only [List.length_cons, Region.lexHead, Bool.and_eq_true] at hB
  obtain ⟨⟨hr, hf⟩, hB'⟩ := hB
  have hkn : k < n := by simp only [List.length_cons] at hk; omega
  have hr' : k ∈ Region.ready md ops listed := by simpa using hr
  have hst : rOp P ops C G k (wpRel P ops C G Lq l) a := by unfold rOp; simp only [h0]; exact h
  obtain ⟨hg, hK⟩ := (rOp_iff h0).1 hst
  exact wpAnyR_first hC h0 (Region.noSelect_spec hsel) hT hkn (fun listed' a' hL => seqB_ready hL.1) l.length listed a inv (Region.free_spec h0 hf) hr' hg
   fun v hv => wpAnyR_lex hC hsel hT l (k + 1) _ _ (fun j hj => by have := hl (j + 1) (by simp; omega); simpa [Nat.add_assoc, Nat.add_comm 1 j] using this) (by simp only [List.length_cons] at hk; omega) (inv.set hr' hkn) hB' (hK v hv)
def relB (ops : Array Oper) (n : Nat) : Bool :=
 Region.noSelect ops && (decide (n = ops.size) || (decide (n < ops.size) && Region.sinkB .any ops n && Region.chainB .any ops n)) && Region.lexHead .any ops (ops.size - n) n 0 (Array.replicate ops.size false)
theorem wp_region_rel {id : Nat} {Q : Exit → Act → World → Prop} {a : Act} {w : World} {l : List Oper} (n : Nat) (C : World → Prop) (G : FuncId → Array Value → Value → Prop)
  (hm : P.follows .mixedOrders = true) (hB : relB l.toArray n = true) (hC : C { w with drawn := w.drawn + 1 })
  (h : wpRel P l.toArray C G (fun a' => ∀ w', C w' → wpList P l.toArray Q (l.drop n) a' w') (l.take n) a) : (Code.region id l.toArray true).wp P Q a w := by
 simp only [relB, Bool.and_eq_true, Bool.or_eq_true, decide_eq_true_eq] at hB
 obtain ⟨⟨hsel, hn⟩, hlex⟩ := hB
 have hle : n ≤ l.length := by
  rcases hn with h | h
  ·rw [h]; simp
  ·have := h.1.1; simp at this; omega
 have htl : (l.take n).length = n := by simp; omega
 have hdl : (l.drop n).length = l.toArray.size - n := by simp
 have inv0 : HeadInv .any l.toArray n (Array.replicate l.toArray.size false) :=
  ⟨by simp, fun j oj _ hl => (by rw [getD_replicate_false] at hl; cases hl), fun t _ ht => getD_in (by simpa using ht) (getD_replicate_false _ _)⟩
 have hT : ∀ listed, HeadInv .any l.toArray n listed → ∀ i, i < n → listed.getD i true = false → ∀ t, n ≤ t → t ∉ Region.ready .any l.toArray listed := by
  intro listed inv i hin hun t ht hr
  rcases hn with h | ⟨⟨h1, h2⟩, h3⟩
  ·obtain ⟨_, ot, hot, _⟩ := mem_ready.1 hr
   have := (Array.getElem?_eq_some_iff.1 hot).1
   omega
  ·exact tail_waits h2 h3 h1 inv _ i rfl hin hun t ht hr
 have H := wpAnyR_lex (P := P) (md := .any) (g := l.toArray.size - n) ⟨_, hC⟩ hsel hT (l.take n) 0 _ a (fun j hj => by
  have hj' : j < n := by rw [htl] at hj; exact hj
  simp [hj']) (by simpa using htl) inv0 (by rw [htl]; exact hlex) h
 refine wp_region_any hm ?_
 have := wpAny_of_rel (Q' := Q) (g := l.toArray.size - n) (fun listed a' w' hw' hL => by
  have := wpAny_of_seq (md := .any) (Q' := Q) (l.drop n) n listed a' w' (fun j => by simp [List.getElem?_drop]) (by rw [hdl]; exact hL.1) (hL.2 w' hw')
  rwa [hdl] at this) _ _ _ _ hC H
 rw [htl, show n + (l.toArray.size - n) = l.toArray.size by omega] at this
 exact this
variable {Q : Act → Prop} {o : Oper} {rest : List Oper} {a : Act}
theorem rel_nil (h : Q a) : wpRel P ops C G Q [] a := h
theorem rel_val {v : Value} (hw : Region.wanted o (yielded ops a.tmps) = true) (h : ∀ w, C w → (execOp a.eval o).run P w = .ok (.value v) w) (k : wpRel P ops C G Q rest (a.put o.dst v)) :
  wpRel P ops C G Q (o :: rest) a := by
 unfold wpRel; rw [if_pos hw]
 refine ⟨fun w hc => by rw [h w hc]; exact hc, fun u hu => ?_⟩
 obtain ⟨w, hc, hu⟩ := hu
 rw [h w hc] at hu
 rw [show u = v from hu]; exact k
theorem rel_call {f : FuncId} {args : Array Value} (hw : Region.wanted o (yielded ops a.tmps) = true) (h : ∀ w, C w → (execOp a.eval o).run P w = .ok (.enter f args) w)
  (c : ∀ w, C w → Calls P f args w fun e w' => ∃ v, e = .returned v ∧ G f args v ∧ C w') (k : ∀ v, G f args v → wpRel P ops C G Q rest (a.put o.dst v)) :
  wpRel P ops C G Q (o :: rest) a := by
 unfold wpRel; rw [if_pos hw]
 refine ⟨fun w hc => by rw [h w hc]; exact c w hc, fun u hu => ?_⟩
 obtain ⟨w, hc, hu⟩ := hu
 rw [h w hc] at hu
 exact k u hu
end
end Go.Proofs.YtlgencbldbpbdaaGreatDoor
