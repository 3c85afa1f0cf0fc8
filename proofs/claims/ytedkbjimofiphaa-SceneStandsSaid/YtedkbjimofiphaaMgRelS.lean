/- A region that draws its order and allocates: printed by rels.py out of Rel.lean. Det: printed by geo13.py. Invert of a matrix that cannot be undone. -/
import Derived.Test.YtedkbjimofiphaaGeoO
import Derived.Test.YtedkbjimofiphaaMgLen
namespace Go.Proofs.Ytedkbjimofiphaa.RB
open Go
section
variable {P : Program} {ops : Array Oper} {md : Region.Mode} {C : World → Prop} {G : FuncId → Array Value → Value → Prop} {S : Option Tmp → Value → World → World → Prop}
/-- The values that an operation may leave, in a world of the class. -/
def mayLeave (P : Program) (C : World → Prop) (G : FuncId → Array Value → Value → Prop) (s : Sem Next) (v : Value) : Prop :=
  ∃ w, C w ∧ match s.run P w with
    | .ok (.value u) _ => v = u
    | .ok .skip _ => v = undef
    | .ok (.enter f args) _ => G f args v
    | _ => False
/-- In every world of the class it goes through, and the step is one of S. -/
def goesOn (P : Program) (C : World → Prop) (G : FuncId → Array Value → Value → Prop) (S : Option Tmp → Value → World → World → Prop) (d : Option Tmp) (s : Sem Next) : Prop :=
  ∀ w, C w → match s.run P w with
    | .ok (.value v) w' => S d v w w'
    | .ok .skip w' => S d undef w w'
    | .ok (.enter f args) w' => Calls P f args w' (fun e w'' => ∃ v, e = .returned v ∧ G f args v ∧ S d v w w'')
    | _ => False
def opRel (P : Program) (C : World → Prop) (G : FuncId → Array Value → Value → Prop) (S : Option Tmp → Value → World → World → Prop) (o : Oper) (a : Act) (K : Act → Prop) : Prop :=
  goesOn P C G S o.dst (execOp a.eval o) ∧ ∀ v, mayLeave P C G (execOp a.eval o) v → K (a.put o.dst v)
/-- The lexical walk. -/
def wpRel (P : Program) (ops : Array Oper) (C : World → Prop) (G : FuncId → Array Value → Value → Prop) (S : Option Tmp → Value → World → World → Prop) (Q : Act → Prop) : List Oper → Act → Prop
  | [], a => Q a
  | o :: rest, a => if Region.wanted o (yielded ops a.tmps) then opRel P C G S o a (wpRel P ops C G S Q rest) else wpRel P ops C G S Q rest (a.put o.dst undef)
def rOp (P : Program) (ops : Array Oper) (C : World → Prop) (G : FuncId → Array Value → Value → Prop) (S : Option Tmp → Value → World → World → Prop) (i : Nat) (K : Act → Prop) (a : Act) : Prop :=
  match ops[i]? with
  | none => K a
  | some o => if Region.wanted o (yielded ops a.tmps) then opRel P C G S o a K else K (a.put o.dst undef)
def wpAnyR (P : Program) (md : Region.Mode) (ops : Array Oper) (C : World → Prop) (G : FuncId → Array Value → Value → Prop) (S : Option Tmp → Value → World → World → Prop) (n : Nat) (L : Array Bool → Act → Prop) : Nat → Array Bool → Act → Prop
  | 0, listed, a => L listed a
  | f + 1, listed, a => Region.ready md ops listed ≠ [] ∧ ∀ i ∈ Region.ready md ops listed, i < n ∧ rOp P ops C G S i (wpAnyR P md ops C G S n L f (listed.setIfInBounds i true)) a
theorem wp_of_opRel {I : Act → World → Prop} (hS : ∀ d v w w', C w → S d v w w' → C w') (hI : ∀ d v a w w', C w → I a w → S d v w w' → I (a.put d v) w')
    {o : Oper} {a : Act} {K : Act → Prop} {K' : Act → World → Prop} {Q' : Exit → Act → World → Prop} {w : World} (hw : C w) (hi : I a w) (h : ∀ a w', C w' → I a w' → K a → K' a w')
    (hh : opRel P C G S o a K) : o.wp P a w K' Q' := by
  obtain ⟨h1, h2⟩ := hh
  have h3 := h1 w hw
  have h4 : ∀ v, _ → K (a.put o.dst v) := fun v hv => h2 v ⟨w, hw, hv⟩
  unfold Oper.wp
  generalize (execOp a.eval o).run P w = r at *
  cases r with
  | ok n w' =>
    cases n <;> simp only [Oper.upon] at h3 h4 ⊢
    case value u => exact h _ _ (hS _ _ _ _ hw h3) (hI _ _ _ _ _ hw hi h3) (h4 u rfl)
    case skip => exact h _ _ (hS _ _ _ _ hw h3) (hI _ _ _ _ _ hw hi h3) (h4 _ rfl)
    case enter f args =>
      exact h3.mono fun e w'' ⟨v, he, hg, hs⟩ => by subst he; exact h _ _ (hS _ _ _ _ hw hs) (hI _ _ _ _ _ hw hi hs) (h4 v hg)
  | halt x w' => exact absurd h3 id
theorem wpOp_of_rOp {I : Act → World → Prop} (hS : ∀ d v w w', C w → S d v w w' → C w') (hI : ∀ d v a w w', C w → I a w → S d v w w' → I (a.put d v) w') (hU : ∀ d a w, I a w → I (a.put d undef) w)
    {i : Nat} {a : Act} {K : Act → Prop} {K' : Act → World → Prop} {Q' : Exit → Act → World → Prop} {w : World} (hC : C w) (hi : I a w) (h : ∀ a w', C w' → I a w' → K a → K' a w')
    (hh : rOp P ops C G S i K a) : wpOp P ops Q' i K' a w := by
  unfold rOp at hh
  unfold wpOp
  split
  · rename_i ho; simp only [ho] at hh; exact h _ _ hC hi hh
  · rename_i o ho
    simp only [ho] at hh
    split
    · rename_i hw; simp only [hw, if_true] at hh; exact .inl (wp_of_opRel hS hI hC hi h hh)
    · rename_i hw; simp only [hw] at hh; exact h _ _ hC (hU _ _ _ hi) hh
theorem wpAny_of_rel {I : Act → World → Prop} (hS : ∀ d v w w', C w → S d v w w' → C w') (hI : ∀ d v a w w', C w → I a w → S d v w w' → I (a.put d v) w') (hU : ∀ d a w, I a w → I (a.put d undef) w)
    {n g : Nat} {L : Array Bool → Act → Prop} {Q' : Exit → Act → World → Prop} (hL : ∀ listed a w, C w → I a w → L listed a → wpAny P md ops Q' g listed a w) :
    ∀ (f : Nat) (listed : Array Bool) (a : Act) (w : World), C w → I a w → wpAnyR P md ops C G S n L f listed a → wpAny P md ops Q' (f + g) listed a w
  | 0, listed, a, w, hw, hi, h => by rw [Nat.zero_add]; exact hL _ _ _ hw hi h
  | f + 1, listed, a, w, hw, hi, h => by
    rw [show f + 1 + g = (f + g) + 1 by omega]
    exact ⟨fun h0 => absurd h0 h.1, fun i hr => wpOp_of_rOp hS hI hU hw hi (fun a' w' hw' hi' h' => wpAny_of_rel hS hI hU hL f _ a' w' hw' hi' h') (h.2 i hr).2⟩
/-- What operation 'o' may leave in its temporary, in state 'a'. -/
def leaves (P : Program) (ops : Array Oper) (C : World → Prop) (G : FuncId → Array Value → Value → Prop) (S : Option Tmp → Value → World → World → Prop) (o : Oper) (a : Act) (v : Value) : Prop :=
  if Region.wanted o (yielded ops a.tmps) then mayLeave P C G (execOp a.eval o) v else v = undef
def goesIn (P : Program) (ops : Array Oper) (C : World → Prop) (G : FuncId → Array Value → Value → Prop) (S : Option Tmp → Value → World → World → Prop) (o : Oper) (a : Act) : Prop :=
  Region.wanted o (yielded ops a.tmps) = true → goesOn P C G S o.dst (execOp a.eval o)
theorem leaves_some {o : Oper} {a : Act} (hC : ∃ w, C w) (h : goesIn P ops C G S o a) : ∃ v, leaves P ops C G S o a v := by
  unfold leaves
  by_cases hw : Region.wanted o (yielded ops a.tmps) = true
  · simp only [hw, if_true]
    obtain ⟨w, hc⟩ := hC
    have h1 := h hw w hc
    unfold mayLeave
    generalize hr : (execOp a.eval o).run P w = r at h1
    cases r with
    | ok n w' =>
      cases n <;> first | (exact absurd h1 id) | skip
      case value u => exact ⟨u, w, hc, by rw [hr]⟩
      case skip => exact ⟨undef, w, hc, by rw [hr]⟩
      case enter f args =>
        obtain ⟨e, w'', _, ⟨v, _, hg, _⟩, _⟩ := h1 []
        exact ⟨v, w, hc, by rw [hr]; exact hg⟩
    | halt x w' => exact absurd h1 id
  · simp only [hw]; exact ⟨undef, rfl⟩
theorem rOp_iff {i : Nat} {o : Oper} {a : Act} {K : Act → Prop} (hi : ops[i]? = some o) : rOp P ops C G S i K a ↔ goesIn P ops C G S o a ∧ ∀ v, leaves P ops C G S o a v → K (a.put o.dst v) := by
  unfold rOp goesIn leaves opRel
  simp only [hi]
  by_cases hw : Region.wanted o (yielded ops a.tmps) = true
  · simp [hw]
  · simp [hw]
theorem wpAnyR_first {n i : Nat} {oi : Oper} {L : Array Bool → Act → Prop} (hC : ∃ w, C w) (hi : ops[i]? = some oi) (hsel : ∀ (j : Nat) (o : Oper) cs b, ops[j]? = some o → o.op ≠ .select cs b)
    (hT : ∀ listed, HeadInv md ops n listed → ∀ i, i < n → listed.getD i true = false → ∀ t, n ≤ t → t ∉ Region.ready md ops listed) (hin : i < n)
    (hdone : ∀ listed a, L listed a → ∀ j ∈ Region.ready md ops listed, n ≤ j) :
    ∀ (f : Nat) (listed : Array Bool) (a : Act), HeadInv md ops n listed →
      (∀ j oj, ops[j]? = some oj → j ≠ i → listed.getD j true = false → (∀ e ∈ oj.after, Region.binds md e = true → e.on ≠ i) → oi.apart ops oj = true) →
      i ∈ Region.ready md ops listed → goesIn P ops C G S oi a →
      (∀ v, leaves P ops C G S oi a v → wpAnyR P md ops C G S n L f (listed.setIfInBounds i true) (a.put oi.dst v)) → wpAnyR P md ops C G S n L (f + 1) listed a := by
  intro f
  induction f with
  | zero =>
    intro listed a inv _ hr hg H
    have hun := (mem_ready.1 hr).1
    refine ⟨fun h => (by rw [h] at hr; cases hr), fun j hj => ?_⟩
    have hjn : j < n := by
      rcases Nat.lt_or_ge j n with h | h
      · exact h
      · exact absurd hj (hT _ inv i hin hun j h)
    refine ⟨hjn, ?_⟩
    by_cases hji : j = i
    · subst hji; exact (rOp_iff hi).2 ⟨hg, H⟩
    · obtain ⟨v, hv⟩ := leaves_some hC hg
      have := hdone _ _ (H v hv) j (ready_mono hj hji)
      omega
  | succ f ih =>
    intro listed a inv hfree hr hg H
    have hun := (mem_ready.1 hr).1
    refine ⟨fun h => (by rw [h] at hr; cases hr), fun j hj => ?_⟩
    have hjn : j < n := by
      rcases Nat.lt_or_ge j n with h | h
      · exact h
      · exact absurd hj (hT _ inv i hin hun j h)
    refine ⟨hjn, ?_⟩
    by_cases hji : j = i
    · subst hji; exact (rOp_iff hi).2 ⟨hg, H⟩
    · obtain ⟨hjun, oj, hoj, hall⟩ := mem_ready.1 hj
      have hnot : ∀ e ∈ oj.after, Region.binds md e = true → e.on ≠ i := fun e he hb heq => by
        have h1 := hall e he hb
        rw [heq, getD_both hun] at h1
        cases h1
      have hap := hfree j oj hoj hji hjun hnot
      obtain ⟨d1, d2, d3⟩ := Oper.apart_spec hap
      have hsi := fun cs b => hsel i oi cs b hi
      have hsj := fun cs b => hsel j oj cs b hoj
      -- the one makes no difference to the other
      have sj : ∀ v u, leaves P ops C G S oj (a.put oi.dst v) u ↔ leaves P ops C G S oj a u := fun v u => by
        unfold leaves; rw [execOp_put oj hsj a oi.dst v d1, wanted_put oj a oi.dst v d1]
      have gj : ∀ v, goesIn P ops C G S oj (a.put oi.dst v) ↔ goesIn P ops C G S oj a := fun v => by
        unfold goesIn; rw [execOp_put oj hsj a oi.dst v d1, wanted_put oj a oi.dst v d1]
      have si : ∀ u v, leaves P ops C G S oi (a.put oj.dst u) v ↔ leaves P ops C G S oi a v := fun u v => by
        unfold leaves; rw [execOp_put oi hsi a oj.dst u d3, wanted_put oi a oj.dst u d3]
      have gi : ∀ u, goesIn P ops C G S oi (a.put oj.dst u) ↔ goesIn P ops C G S oi a := fun u => by
        unfold goesIn; rw [execOp_put oi hsi a oj.dst u d3, wanted_put oi a oj.dst u d3]
      have hj2 := fun v hv => (rOp_iff hoj).1 (((H v hv).2 j (ready_mono hj hji)).2)
      obtain ⟨v0, hv0⟩ := leaves_some hC hg
      refine (rOp_iff hoj).2 ⟨(gj v0).1 (hj2 v0 hv0).1, fun u hu => ?_⟩
      have hfree' : ∀ k ok, ops[k]? = some ok → k ≠ i → (listed.setIfInBounds j true).getD k true = false →
          (∀ e ∈ ok.after, Region.binds md e = true → e.on ≠ i) → oi.apart ops ok = true := fun k ok hk hki hun hno => by
        refine hfree k ok hk hki ?_ hno
        by_cases hjk : j = k
        · subst hjk; exact hjun
        · rw [getD_set_ne true hjk] at hun; exact hun
      refine ih (listed.setIfInBounds j true) (a.put oj.dst u) (inv.set hj hjn) hfree' (ready_mono hr (Ne.symm hji)) ((gi u).2 hg) fun v hv => ?_
      have hv' := (si u v).1 hv
      have := (hj2 v hv').2 u ((sj v u).2 hu)
      rw [Array.setIfInBounds_comm _ _ hji, ← Act.put_comm a v u d2]
      exact this
theorem wpAnyR_lex {n g : Nat} {Lq : Act → Prop} (hC : ∃ w, C w) (hsel : Region.noSelect ops = true)
    (hT : ∀ listed, HeadInv md ops n listed → ∀ i, i < n → listed.getD i true = false → ∀ t, n ≤ t → t ∉ Region.ready md ops listed) :
    ∀ (l : List Oper) (k : Nat) (listed : Array Bool) (a : Act), (∀ j, j < l.length → l[j]? = ops[k + j]?) → k + l.length = n → HeadInv md ops n listed →
    Region.lexHead md ops g l.length k listed = true → wpRel P ops C G S Lq l a →
    wpAnyR P md ops C G S n (fun listed' a' => Region.seqB md ops g n listed' = true ∧ Lq a') l.length listed a
  | [], k, listed, a, _, hk, _, hB, h => by
    have : k = n := by simpa using hk
    subst this
    exact ⟨by simpa [Region.lexHead] using hB, h⟩
  | o :: l, k, listed, a, hl, hk, inv, hB, h => by
    have h0 : ops[k]? = some o := by simpa using (hl 0 (by simp)).symm
    simp only [List.length_cons, Region.lexHead, Bool.and_eq_true] at hB
    obtain ⟨⟨hr, hf⟩, hB'⟩ := hB
    have hkn : k < n := by simp only [List.length_cons] at hk; omega
    have hr' : k ∈ Region.ready md ops listed := by simpa using hr
    have hst : rOp P ops C G S k (wpRel P ops C G S Lq l) a := by unfold rOp; simp only [h0]; exact h
    obtain ⟨hg, hK⟩ := (rOp_iff h0).1 hst
    exact wpAnyR_first hC h0 (Region.noSelect_spec hsel) hT hkn (fun listed' a' hL => seqB_ready hL.1) l.length listed a inv (Region.free_spec h0 hf) hr' hg
      fun v hv => wpAnyR_lex hC hsel hT l (k + 1) _ _ (fun j hj => by have := hl (j + 1) (by simp; omega); simpa [Nat.add_assoc, Nat.add_comm 1 j] using this) (by simp only [List.length_cons] at hk; omega) (inv.set hr' hkn) hB' (hK v hv)
/-- The head (its first n operations) may come in any order that its edges allow; what is behind the head comes one by one. -/
def relB (ops : Array Oper) (n : Nat) : Bool :=
  Region.noSelect ops && (decide (n = ops.size) || (decide (n < ops.size) && Region.sinkB .any ops n && Region.chainB .any ops n)) && Region.lexHead .any ops (ops.size - n) n 0 (Array.replicate ops.size false)
theorem wp_region_rel {id : Nat} {Q : Exit → Act → World → Prop} {a : Act} {w : World} {l : List Oper} (n : Nat) (C : World → Prop) (G : FuncId → Array Value → Value → Prop) (S : Option Tmp → Value → World → World → Prop)
    (hm : P.follows .mixedOrders = true) (hB : relB l.toArray n = true) (hC : C { w with drawn := w.drawn + 1 })
    (I : Act → World → Prop) (hi : I a { w with drawn := w.drawn + 1 }) (hS : ∀ d v w w', C w → S d v w w' → C w') (hI : ∀ d v a w w', C w → I a w → S d v w w' → I (a.put d v) w') (hU : ∀ d a w, I a w → I (a.put d undef) w)
    (h : wpRel P l.toArray C G S (fun a' => ∀ w', C w' → I a' w' → wpList P l.toArray Q (l.drop n) a' w') (l.take n) a) : (Code.region id l.toArray true).wp P Q a w := by
  simp only [relB, Bool.and_eq_true, Bool.or_eq_true, decide_eq_true_eq] at hB
  obtain ⟨⟨hsel, hn⟩, hlex⟩ := hB
  have hle : n ≤ l.length := by
    rcases hn with h | h
    · rw [h]; simp
    · have := h.1.1; simp at this; omega
  have htl : (l.take n).length = n := by simp; omega
  have hdl : (l.drop n).length = l.toArray.size - n := by simp
  have inv0 : HeadInv .any l.toArray n (Array.replicate l.toArray.size false) :=
    ⟨by simp, fun j oj _ hl => (by rw [getD_replicate_false] at hl; cases hl), fun t _ ht => getD_in (by simpa using ht) (getD_replicate_false _ _)⟩
  have hT : ∀ listed, HeadInv .any l.toArray n listed → ∀ i, i < n → listed.getD i true = false → ∀ t, n ≤ t → t ∉ Region.ready .any l.toArray listed := by
    intro listed inv i hin hun t ht hr
    rcases hn with h | ⟨⟨h1, h2⟩, h3⟩
    · obtain ⟨_, ot, hot, _⟩ := mem_ready.1 hr
      have := (Array.getElem?_eq_some_iff.1 hot).1
      omega
    · exact tail_waits h2 h3 h1 inv _ i rfl hin hun t ht hr
  have H := wpAnyR_lex (P := P) (md := .any) (g := l.toArray.size - n) ⟨_, hC⟩ hsel hT (l.take n) 0 _ a (fun j hj => by
    have hj' : j < n := by rw [htl] at hj; exact hj
    simp [hj']) (by simpa using htl) inv0 (by rw [htl]; exact hlex) h
  refine wp_region_any hm ?_
  have := wpAny_of_rel (Q' := Q) (g := l.toArray.size - n) hS hI hU (fun listed a' w' hw' hi' hL => by
    have := wpAny_of_seq (md := .any) (Q' := Q) (l.drop n) n listed a' w' (fun j => by simp [List.getElem?_drop]) (by rw [hdl]; exact hL.1) (hL.2 w' hw' hi')
    rwa [hdl] at this) _ _ _ _ hC hi H
  rw [htl, show n + (l.toArray.size - n) = l.toArray.size by omega] at this
  exact this
open Go.RowKit Fl
/-! ### blocks that the region allocates -/
/-- one step: what lay in memory still lies there; the slots of D take a fresh block each -/
def SA (D : Nat → Option Nat) (d : Option Tmp) (v : Value) (w w' : World) : Prop :=
  Below w.heap.size w w' ∧ ∀ t n, d = some t → D t = some n → v = .pointer (some ⟨w.heap.size, 0, none⟩) ∧ w'.there w.heap.size 0 n ∧ w.heap.size < w'.heap.size
structure IA (D : Nat → Option Nat) (B : Nat) (a : Act) (w : World) : Prop where
  h : ∀ t n, D t = some n → a.tmps.getD t undef = undef ∨ ∃ b, a.tmps.getD t undef = .pointer (some ⟨b, 0, none⟩) ∧ B ≤ b ∧ b < w.heap.size ∧ w.there b 0 n
  d : ∀ t t' n n' b, t ≠ t' → D t = some n → D t' = some n' → a.tmps.getD t undef = .pointer (some ⟨b, 0, none⟩) → a.tmps.getD t' undef ≠ .pointer (some ⟨b, 0, none⟩)
theorem put_same (a : Act) (t : Nat) (v : Value) : (a.put (some t) v).tmps.getD t undef = v ∨ (a.put (some t) v).tmps.getD t undef = undef := by
  unfold Act.put
  simp only [Array.getD_eq_getD_getElem?, Array.getElem?_setIfInBounds]
  by_cases h : t < a.tmps.size
  · left; simp [h]
  · right; simp [h]
theorem put_other (a : Act) {t t' : Nat} (h : t ≠ t') (v : Value) : (a.put (some t) v).tmps.getD t' undef = a.tmps.getD t' undef := by
  unfold Act.put
  simp only [Array.getD_eq_getD_getElem?, Array.getElem?_setIfInBounds]
  simp [h]
theorem undef_ne (p : Option Addr) : undef ≠ .pointer p := nofun
theorem IA.world {D : Nat → Option Nat} {B : Nat} {a : Act} {w w' : World} (h : IA D B a w) (hb : Below w.heap.size w w') : IA D B a w' :=
  ⟨fun t n ht => (h.h t n ht).imp id fun ⟨b, h1, h2, h3, h4⟩ => ⟨b, h1, h2, Nat.lt_of_lt_of_le h3 hb.size, there_below h4 hb h3⟩, h.d⟩
theorem IA.put_undef {D : Nat → Option Nat} {B : Nat} (d : Option Tmp) {a : Act} {w : World} (h : IA D B a w) : IA D B (a.put d undef) w := by
  cases d with
  | none => exact h
  | some s =>
    have key : ∀ t, (a.put (some s) Go.undef).tmps.getD t Go.undef = Go.undef ∨ (a.put (some s) Go.undef).tmps.getD t Go.undef = a.tmps.getD t Go.undef := fun t => by
      by_cases hs : s = t
      · subst hs; exact .inl ((put_same a s Go.undef).elim id id)
      · exact .inr (put_other a hs _)
    refine ⟨fun t n ht => ?_, fun t t' n n' b hne ht ht' e1 e2 => ?_⟩
    · rcases key t with e | e
      · exact .inl e
      · rw [e]; exact h.h t n ht
    · rcases key t with e | e
      · rw [e] at e1; exact undef_ne _ e1
      · rcases key t' with e' | e'
        · rw [e'] at e2; exact undef_ne _ e2
        · rw [e] at e1; rw [e'] at e2; exact h.d t t' n n' b hne ht ht' e1 e2
theorem IA.step {D : Nat → Option Nat} {B : Nat} {d : Option Tmp} {v : Value} {a : Act} {w w' : World} (hB : B ≤ w.heap.size) (h : IA D B a w) (hs : SA D d v w w') : IA D B (a.put d v) w' := by
  have h' := h.world hs.1
  cases d with
  | none => exact h'
  | some s =>
    cases hD : D s with
    | none =>
      have key : ∀ t n, D t = some n → (a.put (some s) v).tmps.getD t Go.undef = a.tmps.getD t Go.undef := fun t n ht => put_other a (fun e => by subst e; rw [hD] at ht; cases ht) _
      refine ⟨fun t n ht => by rw [key t n ht]; exact h'.h t n ht, fun t t' n n' b hne ht ht' e1 e2 => ?_⟩
      rw [key t n ht] at e1
      rw [key t' n' ht'] at e2
      exact h'.d t t' n n' b hne ht ht' e1 e2
    | some m =>
      obtain ⟨hv, hth, hlt⟩ := hs.2 s m rfl hD
      have old : ∀ t n, D t = some n → ∀ b, a.tmps.getD t Go.undef = .pointer (some ⟨b, 0, none⟩) → b < w.heap.size := fun t n ht b e => by
        rcases h.h t n ht with e' | ⟨b', e', _, h3, _⟩
        · rw [e'] at e; exact absurd e (undef_ne _)
        · rw [e'] at e
          injection e with e
          injection e with e
          injection e with e
          omega
      refine ⟨fun t n ht => ?_, fun t t' n n' b hne ht ht' e1 e2 => ?_⟩
      · by_cases hst : s = t
        · subst hst
          rw [hD] at ht
          injection ht with ht
          subst ht
          rcases put_same a s v with e | e
          · exact .inr ⟨_, e.trans hv, hB, hlt, hth⟩
          · exact .inl e
        · rw [put_other a hst]; exact h'.h t n ht
      · by_cases hst : s = t
        · subst hst
          rw [put_other a hne] at e2
          have := old t' n' ht' b e2
          rcases put_same a s v with e | e
          · rw [e, hv] at e1
            injection e1 with e1
            injection e1 with e1
            injection e1 with e1
            omega
          · rw [e] at e1; exact undef_ne _ e1
        · rw [put_other a hst] at e1
          by_cases hst' : s = t'
          · subst hst'
            have := old t n ht b e1
            rcases put_same a s v with e | e
            · rw [e, hv] at e2
              injection e2 with e2
              injection e2 with e2
              injection e2 with e2
              omega
            · rw [e] at e2; exact undef_ne _ e2
          · rw [put_other a hst'] at e2
            exact h'.d t t' n n' b hne ht ht' e1 e2
end
section
open Go.RowKit Fl
variable {P : Program} {ops : Array Oper} {G : FuncId → Array Value → Value → Prop} {D : Nat → Option Nat} {w0 : World} {Q : Act → Prop} {o : Oper} {rest : List Oper} {a : Act}
/-- the region, whatever order is drawn -/
theorem wp_region_alloc {id : Nat} {Q : Exit → Act → World → Prop} {a : Act} {w : World} {l : List Oper} (n : Nat) (D : Nat → Option Nat) (G : FuncId → Array Value → Value → Prop)
    (hm : P.follows .mixedOrders = true) (hB : relB l.toArray n = true) (hi : ∀ t n, D t = some n → a.tmps.getD t undef = undef)
    (h : wpRel P l.toArray (fun w' => Below w.heap.size w w') G (SA D) (fun a' => ∀ w', Below w.heap.size w w' → IA D w.heap.size a' w' → wpList P l.toArray Q (l.drop n) a' w') (l.take n) a) : (Code.region id l.toArray true).wp P Q a w :=
  wp_region_rel n (fun w' => Below w.heap.size w w') G (SA D) hm hB ((Below.refl _ _).drew) (IA D w.heap.size)
    ⟨fun t n ht => .inl (hi t n ht), fun t t' n n' b _ ht _ e => by rw [hi t n ht] at e; exact absurd e (undef_ne _)⟩
    (fun _ _ _ _ hc hs => hc.trans (hs.1.mono hc.size)) (fun _ _ _ _ _ hc hi hs => IA.step hc.size hi hs) (fun d _ _ hi => hi.put_undef d) h
theorem rel_nil {C : World → Prop} (h : Q a) : wpRel P ops C G (SA D) Q [] a := h
theorem rel_set {C : World → Prop} {R : Value → Prop} (hw : Region.wanted o (yielded ops a.tmps) = true) (h : ∀ w, C w → ∃ v w', (execOp a.eval o).run P w = .ok (.value v) w' ∧ SA D o.dst v w w' ∧ R v)
    (k : ∀ v, R v → wpRel P ops C G (SA D) Q rest (a.put o.dst v)) : wpRel P ops C G (SA D) Q (o :: rest) a := by
  unfold wpRel; rw [if_pos hw]
  refine ⟨fun w hc => by obtain ⟨v, w', e, hc', _⟩ := h w hc; rw [e]; exact hc', fun u hu => ?_⟩
  obtain ⟨w, hc, hu⟩ := hu
  obtain ⟨v, w', e, _, hr⟩ := h w hc
  rw [e] at hu
  rw [show u = v from hu]; exact k v hr
theorem notD {d : Option Tmp} (hd : d.bind D = none) (v : Value) {w w' : World} (hb : Below w.heap.size w w') : SA D d v w w' := ⟨hb, fun t n ht hn => by subst ht; rw [Option.bind_some, hn] at hd; cases hd⟩
theorem rel_val {C : World → Prop} {v : Value} (hw : Region.wanted o (yielded ops a.tmps) = true) (hd : o.dst.bind D = none) (h : ∀ w, C w → (execOp a.eval o).run P w = .ok (.value v) w)
    (k : wpRel P ops C G (SA D) Q rest (a.put o.dst v)) : wpRel P ops C G (SA D) Q (o :: rest) a :=
  rel_set (R := fun u => u = v) hw (fun w hc => ⟨v, w, h w hc, notD hd v (Below.refl _ _), rfl⟩) (fun u hu => by subst hu; exact k)
theorem rel_call {C : World → Prop} {f : FuncId} {args : Array Value} (hw : Region.wanted o (yielded ops a.tmps) = true) (hd : o.dst.bind D = none) (h : ∀ w, C w → (execOp a.eval o).run P w = .ok (.enter f args) w)
    (c : ∀ w, C w → Calls P f args w fun e w' => ∃ v, e = .returned v ∧ G f args v ∧ Below w.heap.size w w') (k : ∀ v, G f args v → wpRel P ops C G (SA D) Q rest (a.put o.dst v)) :
    wpRel P ops C G (SA D) Q (o :: rest) a := by
  unfold wpRel; rw [if_pos hw]
  refine ⟨fun w hc => by rw [h w hc]; exact (c w hc).mono fun e w' ⟨v, he, hg, hb⟩ => ⟨v, he, hg, notD hd v hb⟩, fun u hu => ?_⟩
  obtain ⟨w, hc, hu⟩ := hu
  rw [h w hc] at hu
  exact k u hu
variable {dst : Option Tmp} {T : TypeId} {pos : String} {af : Array Edge} {gd : Option (Nat × Bool)}
theorem rel_move {C : World → Prop} {x : Operand} {v : Value} (hx : a.eval x = v) (hw : Region.wanted ⟨dst, .move x, T, pos, af, gd⟩ (yielded ops a.tmps) = true) (hd : dst.bind D = none)
    (k : wpRel P ops C G (SA D) Q rest (a.put dst v)) : wpRel P ops C G (SA D) Q (⟨dst, .move x, T, pos, af, gd⟩ :: rest) a :=
  rel_val hw hd (fun w hc => by unfold execOp; simp only [hx]; rfl) k
theorem rel_load_row {C : World → Prop} {x : Operand} {ty : TypeId} (b o : Nat) (cs : List Value) (d : TypeDesc) (hx : a.eval x = .pointer (some ⟨b, o, none⟩)) (hw : Region.wanted ⟨dst, .load ty x, T, pos, af, gd⟩ (yielded ops a.tmps) = true) (hD : dst.bind D = none)
    (hS : ∀ w, C w → w.rangeAt b o cs) (hu : P.underlying ty = some d) (hd : d.isRow = true) (hi : (P.info? ty).map (·.size) = some cs.length)
    (k : wpRel P ops C G (SA D) Q rest (a.put dst (.agg cs.toArray))) : wpRel P ops C G (SA D) Q (⟨dst, .load ty x, T, pos, af, gd⟩ :: rest) a :=
  rel_val hw hD (fun w hc => by
    unfold execOp
    simp only [hx, Instr.loadAt, Instr.sureAddr, Sem.run_bind, Sem.run_pure, Result.andThen_ok, run_loadVar_mid w b o ty cs d (hS w hc) hu hd hi]) k
theorem rel_alloc {C : World → Prop} {t : Nat} {ty : TypeId} (n : Nat) (Z : Array Value) (hZ : Z.size = n) (hD : D t = some n) (hw : Region.wanted ⟨some t, .alloc ty, T, pos, af, gd⟩ (yielded ops a.tmps) = true)
    (h : ∀ w, (execOp a.eval ⟨some t, .alloc ty, T, pos, af, gd⟩).run P w = .ok (.value (.pointer (some ⟨w.heap.size, 0, none⟩))) (w.alloc (.cells Z ty)))
    (k : ∀ b, wpRel P ops C G (SA D) Q rest (a.put (some t) (.pointer (some ⟨b, 0, none⟩)))) : wpRel P ops C G (SA D) Q (⟨some t, .alloc ty, T, pos, af, gd⟩ :: rest) a :=
  rel_set (R := fun v => ∃ b, v = .pointer (some ⟨b, 0, none⟩)) hw (fun w hc => ⟨_, _, h w, ⟨(Below.refl _ _).alloc (Nat.le_refl _) _, fun t' n' ht hn => by
    injection ht with ht
    subst ht
    rw [hD] at hn
    injection hn with hn
    subst hn
    exact ⟨rfl, there_new w Z ty n hZ, by simp⟩⟩, _, rfl⟩) (fun v ⟨b, hv⟩ => by subst hv; exact k b)
end
end Go.Proofs.Ytedkbjimofiphaa.RB

namespace Go.Proofs.Ytedkbjimofiphaa
open Go.RowKit Fl
def RB.D2 (s t n : Nat) : Nat → Option Nat := fun u => if u = s then some n else if u = t then some n else none
theorem RB.D2_or {s t n u m : Nat} (h : RB.D2 s t n u = some m) : u = s ∨ u = t := by
  unfold RB.D2 at h
  by_cases h1 : u = s
  · exact .inl h1
  · by_cases h2 : u = t
    · exact .inr h2
    · rw [if_neg h1, if_neg h2] at h; cases h
theorem RB.IA.at {D : Nat → Option Nat} {B : Nat} {a : Act} {w : World} (h : RB.IA D B a w) {t n b : Nat} (ht : D t = some n) (e : a.tmps.getD t undef = .pointer (some ⟨b, 0, none⟩)) : B ≤ b ∧ b < w.heap.size ∧ w.there b 0 n := by
  rcases h.h t n ht with e' | ⟨b', e', h1, h2, h3⟩
  · rw [e'] at e; exact absurd e (RB.undef_ne _)
  · rw [e'] at e
    injection e with e
    injection e with e
    injection e with e
    subst e
    exact ⟨h1, h2, h3⟩
theorem RB.IA.ne {D : Nat → Option Nat} {B : Nat} {a : Act} {w : World} (h : RB.IA D B a w) {t t' n n' b b' : Nat} (hne : t ≠ t') (ht : D t = some n) (ht' : D t' = some n') (e : a.tmps.getD t undef = .pointer (some ⟨b, 0, none⟩))
    (e' : a.tmps.getD t' undef = .pointer (some ⟨b', 0, none⟩)) : b ≠ b' := fun hb => h.d t t' n n' b hne ht ht' e (hb ▸ e')
/-- what the two minors may answer -/
def GMin (ms : List Nat) (f : FuncId) (args : Array Value) (v : Value) : Prop :=
  f = 78 → (args = #[.agg (ms.map (Value.float .f64)).toArray, .int .i64 0] → ∃ os : List Nat, v = .agg (os.map (Value.float .f64)).toArray ∧ MinS (minors0 (mp ms)) os 6) ∧
    (args = #[.agg (ms.map (Value.float .f64)).toArray, .int .i64 8] → ∃ os : List Nat, v = .agg (os.map (Value.float .f64)).toArray ∧ MinS (minors8 (mp ms)) os 6)
theorem ne08 (x : Value) : (#[x, .int .i64 0] : Array Value) ≠ #[x, .int .i64 8] := fun h => by injection h with h; injection h with _ h; injection h with h; injection h with _ h; cases h
theorem gMin0 {ms : List Nat} (hm : MU ms) (w : World) : Calls Try.prog 78 #[.agg (ms.map (Value.float .f64)).toArray, .int .i64 0] w fun e w' => ∃ v, e = .returned v ∧ GMin ms 78 #[.agg (ms.map (Value.float .f64)).toArray, .int .i64 0] v ∧ Below w.heap.size w w' :=
  (k156_0 hm w).mono fun e w' ⟨⟨os, he, hs⟩, hb⟩ => ⟨_, he, fun _ => ⟨fun _ => ⟨os, rfl, hs⟩, fun h => absurd h (ne08 _)⟩, hb⟩
theorem GMin0 {ms : List Nat} {v : Value} (h : GMin ms 78 #[.agg (ms.map (Value.float .f64)).toArray, .int .i64 0] v) : ∃ os : List Nat, v = .agg (os.map (Value.float .f64)).toArray ∧ MinS (minors0 (mp ms)) os 6 := (h rfl).1 rfl
theorem gMin8 {ms : List Nat} (hm : MU ms) (w : World) : Calls Try.prog 78 #[.agg (ms.map (Value.float .f64)).toArray, .int .i64 8] w fun e w' => ∃ v, e = .returned v ∧ GMin ms 78 #[.agg (ms.map (Value.float .f64)).toArray, .int .i64 8] v ∧ Below w.heap.size w w' :=
  (k156_8 hm w).mono fun e w' ⟨⟨os, he, hs⟩, hb⟩ => ⟨_, he, fun _ => ⟨fun h => absurd h.symm (ne08 _), fun _ => ⟨os, rfl, hs⟩⟩, hb⟩
theorem GMin8 {ms : List Nat} {v : Value} (h : GMin ms 78 #[.agg (ms.map (Value.float .f64)).toArray, .int .i64 8] v) : ∃ os : List Nat, v = .agg (os.map (Value.float .f64)).toArray ∧ MinS (minors8 (mp ms)) os 6 := (h rfl).2 rfl
theorem six {xs : List Nat} (h : xs.length = 6) : ∃ a b c d e f, xs = [a, b, c, d, e, f] := by
  match xs, h with
  | [a, b, c, d, e, f], _ => exact ⟨a, b, c, d, e, f, rfl⟩
theorem cells6 {w : World} {b : Nat} {v0 v1 v2 v3 v4 v5 : Nat} (h : w.rangeAt b 0 ([v0, v1, v2, v3, v4, v5].map (Value.float .f64))) :
    w.cell? ⟨b, 0, none⟩ = some (.float .f64 v0) ∧ w.cell? ⟨b, 1, none⟩ = some (.float .f64 v1) ∧ w.cell? ⟨b, 2, none⟩ = some (.float .f64 v2) ∧ w.cell? ⟨b, 3, none⟩ = some (.float .f64 v3) ∧ w.cell? ⟨b, 4, none⟩ = some (.float .f64 v4) ∧ w.cell? ⟨b, 5, none⟩ = some (.float .f64 v5) := by
  have k := fun j v hj => (Nat.zero_add j ▸ h j v hj : w.cell? ⟨b, j, none⟩ = some v)
  exact ⟨k 0 _ rfl, k 1 _ rfl, k 2 _ rfl, k 3 _ rfl, k 4 _ rfl, k 5 _ rfl⟩
def detP (m : Nat → Int) : Int :=
  opP .add (opP .sub (opP .add (opP .add (opP .sub (opP .mul (minors0 m 0) (minors8 m 5)) (opP .mul (minors0 m 1) (minors8 m 4))) (opP .mul (minors0 m 2) (minors8 m 3))) (opP .mul (minors0 m 3) (minors8 m 2))) (opP .mul (minors0 m 4) (minors8 m 1))) (opP .mul (minors0 m 5) (minors8 m 0))
set_option maxRecDepth 100000 in
set_option maxHeartbeats 2000000 in
theorem k103 {ms : List Nat} (hm : MU ms) (w : World) :
    Calls Try.prog 76 #[.agg (ms.map (Value.float .f64)).toArray] w fun e w' => RetR (detP (mp ms)) e ∧ Below w.heap.size w w' := by
  have HM := Lib.hid hm
  clear hm
  go_enter Try.func76, Try.ntmps76
  go_wp2_with fail
  refine wp_gen (fun wx => Hid (wx.rangeAt w.heap.size 0 (ms.map (Value.float .f64)) ∧ Below w.heap.size w wx ∧ w.heap.size < wx.heap.size)) (Lib.hid ⟨range_new w _ 44, (Below.refl _ _).alloc (Nat.le_refl _) _, by simp⟩) ?_
  intro wc hW
  have ra : ∀ w', Below wc.heap.size wc w' → w'.rangeAt w.heap.size 0 (ms.map (Value.float .f64)) := fun w' hw => range_below hW.out.1 hw hW.out.2.2
  refine RB.wp_region_alloc 6 (RB.D2 3 4 6) (GMin ms) (by kernel_rfl) (by kernel_rfl) (fun t n h => by rcases RB.D2_or h with rfl | rfl <;> rfl) ?_
  simp only [List.take_succ_cons, List.take_zero, List.drop_succ_cons, List.drop_zero]
  refine RB.rel_load_row (w.heap.size) 0 (ms.map (Value.float .f64)) _ rfl rfl rfl ra Try.underlying44 rfl (by rw [List.length_map, HM.out.1]; exact size80) ?_
  simp only [Act.put, List.setIfInBounds_toArray, List.set_cons_succ, List.set_cons_zero]
  refine RB.rel_call (f := 78) (args := #[.agg (ms.map (Value.float .f64)).toArray, .int .i64 0]) rfl rfl (fun w' hw => by go_simp) (fun w' hw => gMin0 HM.out w') (fun v hv => ?_)
  obtain ⟨ds, rfl, hds⟩ := GMin0 hv
  simp only [Act.put, List.setIfInBounds_toArray, List.set_cons_succ, List.set_cons_zero]
  refine RB.rel_load_row (w.heap.size) 0 (ms.map (Value.float .f64)) _ rfl rfl rfl ra Try.underlying44 rfl (by rw [List.length_map, HM.out.1]; exact size80) ?_
  simp only [Act.put, List.setIfInBounds_toArray, List.set_cons_succ, List.set_cons_zero]
  refine RB.rel_call (f := 78) (args := #[.agg (ms.map (Value.float .f64)).toArray, .int .i64 8]) rfl rfl (fun w' hw => by go_simp) (fun w' hw => gMin8 HM.out w') (fun v hv => ?_)
  obtain ⟨es, rfl, hes⟩ := GMin8 hv
  simp only [Act.put, List.setIfInBounds_toArray, List.set_cons_succ, List.set_cons_zero]
  refine RB.rel_alloc 6 #[.float .f64 0, .float .f64 0, .float .f64 0, .float .f64 0, .float .f64 0, .float .f64 0] rfl rfl rfl (fun w' => by go_simp) (fun b3 => ?_)
  simp only [Act.put, List.setIfInBounds_toArray, List.set_cons_succ, List.set_cons_zero]
  refine RB.rel_alloc 6 #[.float .f64 0, .float .f64 0, .float .f64 0, .float .f64 0, .float .f64 0, .float .f64 0] rfl rfl rfl (fun w' => by go_simp) (fun b4 => ?_)
  simp only [Act.put, List.setIfInBounds_toArray, List.set_cons_succ, List.set_cons_zero]
  refine RB.rel_nil ?_
  intro w3 hB3 hI
  have hx := hI.at (t := 3) (b := b3) rfl rfl
  have hy := hI.at (t := 4) (b := b4) rfl rfl
  have hne := hI.ne (t := 3) (t' := 4) (b := b3) (b' := b4) (by decide) rfl rfl rfl rfl
  have hd6 := hds.1
  have he6 := hes.1
  have hlx : b3 < w3.heap.size := hx.2.1
  have hly : b4 < w3.heap.size := hy.2.1
  have Tx := Lib.hid (thereA hx.2.2 hd6)
  have Ty0 := thereA hy.2.2 he6
  have Ty := Lib.hid (World.there_setCells Ty0 b3 0 (ds.map (Value.float .f64)))
  have E1 := Lib.hid (size152A ds hd6)
  have E2 := Lib.hid (size152A es he6)
  have WF : Hid (((w3.setCells b3 0 (ds.map (Value.float .f64))).setCells b4 0 (es.map (Value.float .f64))).rangeAt b3 0 (ds.map (Value.float .f64)) ∧ ((w3.setCells b3 0 (ds.map (Value.float .f64))).setCells b4 0 (es.map (Value.float .f64))).rangeAt b4 0 (es.map (Value.float .f64)) ∧ Below w.heap.size w ((w3.setCells b3 0 (ds.map (Value.float .f64))).setCells b4 0 (es.map (Value.float .f64)))) :=
    Lib.hid ⟨World.rangeAt_setCells_apart (World.rangeAt_setCells_same _ _ _ _ (thereL hx.2.2 hd6)) _ _ _ (.inl hne), World.rangeAt_setCells_same _ _ _ _ (World.there_setCells (thereL hy.2.2 he6) _ _ _),
      below_setCells (below_setCells (hW.out.2.1.trans (hB3.mono (Nat.le_of_lt hW.out.2.2))) (Nat.le_trans (Nat.le_of_lt hW.out.2.2) hx.1) 0 _) (Nat.le_trans (Nat.le_of_lt hW.out.2.2) hy.1) 0 _⟩
  clear hx hy hne hlx hly Ty0 hB3 hI hW ra
  go_upto_region 2 with (first
    | (refine wpList_store_mid rfl 143 (.tmp 3) (.tmp 7) rfl b3 0 (ds.map (Value.float .f64)).toArray rfl rfl Tx.out E1.out (one16 ds) ?_)
    | (refine wpList_store_mid rfl 143 (.tmp 4) (.tmp 9) rfl b4 0 (es.map (Value.float .f64)).toArray rfl rfl Ty.out E2.out (one16 es) ?_))
  refine wp_gen (fun wx => Hid (wx.rangeAt b3 0 (ds.map (Value.float .f64)) ∧ wx.rangeAt b4 0 (es.map (Value.float .f64)) ∧ Below w.heap.size w wx)) WF ?_
  intro wd hD
  clear WF Tx Ty E1 E2
  obtain ⟨d0, d1, d2, d3, d4, d5, rfl⟩ := six hd6
  obtain ⟨e0, e1, e2, e3, e4, e5, rfl⟩ := six he6
  have RD := Lib.hid hds.2
  have RE := Lib.hid hes.2
  obtain ⟨x0, x1, x2, x3, x4, x5⟩ := cells6 hD.out.1
  obtain ⟨y0, y1, y2, y3, y4, y5⟩ := cells6 hD.out.2.1
  have BD := Lib.hid (fun n => Bd hD.out.2.2 n)
  have hA := fun x y w => run_fop (P := Try.prog) .add rfl 31 x y w
  have hS := fun x y w => run_fop (P := Try.prog) .sub rfl 31 x y w
  have hM := fun x y w => run_fop (P := Try.prog) .mul rfl 31 x y w
  clear hds hes hd6 he6 hD
  go_wp2
  go_ret
  exact ⟨⟨_, rfl, (RV.fop .add (RV.fop .sub (RV.fop .add (RV.fop .add (RV.fop .sub (RV.fop .mul (show RV d0 _ from RD.out 0 (by decide)) (show RV e5 _ from RE.out 5 (by decide)) _) (RV.fop .mul (show RV d1 _ from RD.out 1 (by decide)) (show RV e4 _ from RE.out 4 (by decide)) _) _) (RV.fop .mul (show RV d2 _ from RD.out 2 (by decide)) (show RV e3 _ from RE.out 3 (by decide)) _) _) (RV.fop .mul (show RV d3 _ from RD.out 3 (by decide)) (show RV e2 _ from RE.out 2 (by decide)) _) _) (RV.fop .mul (show RV d4 _ from RD.out 4 (by decide)) (show RV e1 _ from RE.out 1 (by decide)) _) _) (RV.fop .mul (show RV d5 _ from RD.out 5 (by decide)) (show RV e0 _ from RE.out 0 (by decide)) _) _)⟩, BD.out _⟩
end Go.Proofs.Ytedkbjimofiphaa

namespace Go.Proofs.Ytedkbjimofiphaa
open Go.RowKit Fl
/-- sixteen words, the first k no numbers -/
def nanK (k : Nat) : List Nat := (List.range 16).map fun j => if j < k then QN else 0
theorem nanK_len (k : Nat) : (nanK k).length = 16 := by unfold nanK; rw [List.length_map, List.length_range]
theorem nan0 : nanK 0 = z16 := by decide
theorem nan_step (k : Nat) (h : k < 16) : (nanK k).set k QN = nanK (k + 1) := by
  rcases (by omega : k = 0 ∨ k = 1 ∨ k = 2 ∨ k = 3 ∨ k = 4 ∨ k = 5 ∨ k = 6 ∨ k = 7 ∨ k = 8 ∨ k = 9 ∨ k = 10 ∨ k = 11 ∨ k = 12 ∨ k = 13 ∨ k = 14 ∨ k = 15) with rfl | rfl | rfl | rfl | rfl | rfl | rfl | rfl | rfl | rfl | rfl | rfl | rfl | rfl | rfl | rfl <;> decide
structure NanAt (wx w : World) (g k : Nat) : Prop where
  r : wx.rangeAt g 0 ((nanK k).map (Value.float .f64))
  t : wx.there g 0 16
  t1 : wx.there (w.heap.size + 1) 0 16
  b : Below w.heap.size w wx
  l : w.heap.size + 1 < g
theorem nan_start {w2 w : World} {A : List Value} (h : One w2 w A 16) : NanAt (w2.alloc (.cells Z16 44)) w w2.heap.size 0 := by
  have h1 := one_below h (alloc_below w2 (.cells Z16 44))
  refine ⟨?_, there_new w2 Z16 44 16 rfl, h1.t, h1.b, h.lt⟩
  have := range_new w2 (z16.map (Value.float .f64)) 44
  rwa [← Z16_list, ← nan0] at this
theorem NanAt.step {wx w : World} {g k : Nat} (h : NanAt wx w g k) (hk : k < 16) : NanAt (wx.setCell ⟨g, k, none⟩ (.float .f64 QN)) w g (k + 1) :=
  ⟨by rw [← nan_step k hk]; exact range_set h.r _, there_set h.t _ _, there_set h.t1 _ _, h.b.setCell (by have := h.l; simp; omega) _, h.l⟩
set_option maxRecDepth 100000 in
set_option maxHeartbeats 2000000 in
/-- the determinant's class is zero -/
theorem k97z {ms : List Nat} (hm : MU ms) (hz : ∀ x, RV x (detP (mp ms)) → pCls x = 0) (w : World) :
    Calls Try.prog 63 #[.agg (ms.map (Value.float .f64)).toArray] w fun e w' => e = .returned (.tuple #[.agg ((nanK 16).map (Value.float .f64)).toArray, .bool false]) ∧ Below w.heap.size w w' := by
  have HM := Lib.hid hm
  have HZ := Lib.hid hz
  clear hm hz
  go_enter Try.func63, Try.ntmps63
  go_upto_region 1 with fail
  refine wp_gen (fun wx => Hid (One wx w (ms.map (Value.float .f64)) 16)) (Lib.hid (one_entry w (ms.map (Value.float .f64)) _ 44 44 16 rfl)) ?_
  intro wc hW
  have RR := Lib.hid hW.out.r1
  have E0 := Lib.hid (size80L ms HM.out.1)
  go_wp2_with (refine wpList_load_mid rfl 44 (.tmp 1) rfl w.heap.size 0 rfl (ms.map (Value.float .f64)) _ RR.out Try.underlying44 rfl E0.out ?_)
  refine (k103 HM.out _).mono ?_
  rintro e w2 ⟨⟨x, rfl, hx⟩, hb⟩
  have W2 := Lib.hid (one_below hW.out hb)
  have HX := Lib.hid hx
  clear hb hx hW RR
  go_wp2_with fail
  refine (c30 x _ HX.out.1).mono ?_
  rintro e w3 ⟨rfl, hb⟩
  unfold partsV
  rw [HZ.out x HX.out]
  generalize pNeg x = pn
  generalize pMant x = pm
  generalize pExp x = pe
  have hfd : ∀ w : World, (Instr.field 141 (.agg #[.bool pn, .int .i64 0, .int .u64 (pm : Nat), .int .i64 pe]) 1).run Try.prog w = .ok (.int .i64 0) w := fun _ => by kernel_rfl
  have W3 := Lib.hid (nan_start (one_below W2.out hb))
  clear hb W2
  go_upto_region 5 with fail
  clear hfd
  refine wp_gen (fun wx => Hid (NanAt wx w w3.heap.size 0)) W3 ?_
  intro wd hW
  clear W3
  generalize w3.heap.size = g at *
  go_wp2_with fail
  go_loopw [29] (fun i wx => ∃ k : Nat, k ≤ 16 ∧ i = .int .i64 k ∧ Hid (NanAt wx w g k)) (fun i _ => 16 - (intOf i).toNat)
  case atStart => exact ⟨0, by omega, rfl, hW⟩
  case round =>
    obtain ⟨k, hk, rfl, hI⟩ := hrel
    clear hW
    by_cases hlt : k < 16
    · have hki : (k : Int) < 16 := by omega
      have hk0 : (0 : Int) ≤ (k : Int) := by omega
      have HLT := Lib.hid hlt
      have st := store1 hI.out.t (o := k) hlt QN
      have I2 := Lib.hid (hI.out.step hlt)
      clear hlt
      go_wp2_with fail
      refine (c135 _).mono ?_
      rintro e w4 ⟨rfl, rfl⟩
      go_wp2_with fail
      go_roundw
      case rel => exact ⟨k + 1, by have := HLT.out; omega, by go_num, I2⟩
      case measure => have := HLT.out; simp [intOf]; omega
    · have hki : ¬ (k : Int) < 16 := by omega
      have hk16 : k = 16 := by omega
      subst hk16
      have RR := Lib.hid hI.out.r
      have E1 := Lib.hid (size80L (nanK 16) (nanK_len 16))
      have E2 := Lib.hid (size80A (nanK 16) (nanK_len 16))
      have T0 := Lib.hid (thereA hI.out.t1 (nanK_len 16))
      have T1 := Lib.hid (thereL hI.out.t1 (nanK_len 16))
      have BB := Lib.hid (below_setCells hI.out.b (Nat.le_succ _) 0 ((nanK 16).map (Value.float .f64)))
      clear hlt hk hI
      go_wp2_with (first
        | (refine wpList_load_mid rfl 44 (.tmp 6) rfl g 0 rfl ((nanK 16).map (Value.float .f64)) _ RR.out Try.underlying44 rfl E1.out ?_)
        | (refine wpList_store_mid rfl 44 (.tmp 2) (.tmp 36) rfl (w.heap.size + 1) 0 ((nanK 16).map (Value.float .f64)).toArray rfl rfl T0.out E2.out (one16 (nanK 16)) ?_))
      refine bodyPost_ret (v := .tuple #[.agg ((nanK 16).map (Value.float .f64)).toArray, .bool false]) (ret_row2 Try.prog Try.results63 rfl ((nanK 16).map (Value.float .f64)) T1.out Try.underlying44 rfl E1.out) rfl ⟨rfl, BB.out⟩
end Go.Proofs.Ytedkbjimofiphaa
