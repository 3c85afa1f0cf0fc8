/- A region that draws its order and holds one store: out of RelS. -/
import Derived.Test.YtedkbjimofiphaaMgRelS
import Derived.Test.YtedkbjimofiphaaMgRwC
namespace Go.Proofs.Ytedkbjimofiphaa.RU
open Go
section
variable {P : Program} {ops : Array Oper} {md : Region.Mode} {C : World → Prop} {G : FuncId → Array Value → Value → Prop} {S : Oper → Value → World → World → Prop}
/-- The values that an operation may leave, in a world of the class. -/
def mayLeave (P : Program) (C : World → Prop) (G : FuncId → Array Value → Value → Prop) (s : Sem Next) (v : Value) : Prop :=
  ∃ w, C w ∧ match s.run P w with
    | .ok (.value u) _ => v = u
    | .ok .skip _ => v = undef
    | .ok (.enter f args) _ => G f args v
    | _ => False
/-- In every world of the class it goes through, and the step is one of S. -/
def goesOn (P : Program) (C : World → Prop) (G : FuncId → Array Value → Value → Prop) (S : Oper → Value → World → World → Prop) (d : Oper) (s : Sem Next) : Prop :=
  ∀ w, C w → match s.run P w with
    | .ok (.value v) w' => S d v w w'
    | .ok .skip w' => S d undef w w'
    | .ok (.enter f args) w' => Calls P f args w' (fun e w'' => ∃ v, e = .returned v ∧ G f args v ∧ S d v w w'')
    | _ => False
def opRel (P : Program) (C : World → Prop) (G : FuncId → Array Value → Value → Prop) (S : Oper → Value → World → World → Prop) (o : Oper) (a : Act) (K : Act → Prop) : Prop :=
  goesOn P C G S o (execOp a.eval o) ∧ ∀ v, mayLeave P C G (execOp a.eval o) v → K (a.put o.dst v)
/-- The lexical walk. -/
def wpRel (P : Program) (ops : Array Oper) (C : World → Prop) (G : FuncId → Array Value → Value → Prop) (S : Oper → Value → World → World → Prop) (Q : Act → Prop) : List Oper → Act → Prop
  | [], a => Q a
  | o :: rest, a => if Region.wanted o (yielded ops a.tmps) then opRel P C G S o a (wpRel P ops C G S Q rest) else wpRel P ops C G S Q rest (a.put o.dst undef)
theorem wpRel_mono {K K' : Act → Prop} (h : ∀ a, K a → K' a) : ∀ (l : List Oper) {a : Act}, wpRel P ops C G S K l a → wpRel P ops C G S K' l a
  | [], _, hh => h _ hh
  | o :: l, a, hh => by
    unfold wpRel at *
    split
    · rename_i hw; simp only [hw, if_true] at hh; exact ⟨hh.1, fun v hv => wpRel_mono h l (hh.2 v hv)⟩
    · rename_i hw; simp only [hw] at hh; exact wpRel_mono h l hh
def rOp (P : Program) (ops : Array Oper) (C : World → Prop) (G : FuncId → Array Value → Value → Prop) (S : Oper → Value → World → World → Prop) (i : Nat) (K : Act → Prop) (a : Act) : Prop :=
  match ops[i]? with
  | none => K a
  | some o => if Region.wanted o (yielded ops a.tmps) then opRel P C G S o a K else K (a.put o.dst undef)
def wpAnyR (P : Program) (md : Region.Mode) (ops : Array Oper) (C : World → Prop) (G : FuncId → Array Value → Value → Prop) (S : Oper → Value → World → World → Prop) (n : Nat) (L : Array Bool → Act → Prop) : Nat → Array Bool → Act → Prop
  | 0, listed, a => L listed a
  | f + 1, listed, a => Region.ready md ops listed ≠ [] ∧ ∀ i ∈ Region.ready md ops listed, i < n ∧ rOp P ops C G S i (wpAnyR P md ops C G S n L f (listed.setIfInBounds i true)) a
theorem wp_of_opRel {I I' : Act → World → Prop} {o : Oper} {a : Act} (hS : ∀ d v w w', C w → S d v w w' → C w') (hI : ∀ v w w', C w → I a w → S o v w w' → I' (a.put o.dst v) w')
    {K : Act → Prop} {K' : Act → World → Prop} {Q' : Exit → Act → World → Prop} {w : World} (hw : C w) (hi : I a w) (h : ∀ a w', C w' → I' a w' → K a → K' a w')
    (hh : opRel P C G S o a K) : o.wp P a w K' Q' := by
  obtain ⟨h1, h2⟩ := hh
  have h3 := h1 w hw
  have h4 : ∀ v, _ → K (a.put o.dst v) := fun v hv => h2 v ⟨w, hw, hv⟩
  unfold Oper.wp
  generalize (execOp a.eval o).run P w = r at *
  cases r with
  | ok n w' =>
    cases n <;> simp only [Oper.upon] at h3 h4 ⊢
    case value u => exact h _ _ (hS _ _ _ _ hw h3) (hI _ _ _ hw hi h3) (h4 u rfl)
    case skip => exact h _ _ (hS _ _ _ _ hw h3) (hI _ _ _ hw hi h3) (h4 _ rfl)
    case enter f args =>
      exact h3.mono fun e w'' ⟨v, he, hg, hs⟩ => by subst he; exact h _ _ (hS _ _ _ _ hw hs) (hI _ _ _ hw hi hs) (h4 v hg)
  | halt x w' => exact absurd h3 id
theorem wpOp_of_rOp {I : Array Bool → Act → World → Prop} (hS : ∀ d v w w', C w → S d v w w' → C w') (hI : ∀ i o l v a w w', ops[i]? = some o → C w → I l a w → S o v w w' → I (l.setIfInBounds i true) (a.put o.dst v) w')
    (hU : ∀ i o l a w, ops[i]? = some o → Region.wanted o (yielded ops a.tmps) = false → I l a w → I (l.setIfInBounds i true) (a.put o.dst undef) w)
    {i : Nat} {l : Array Bool} {a : Act} {K : Act → Prop} {K' : Act → World → Prop} {Q' : Exit → Act → World → Prop} {w : World} (hin : i < ops.size) (hC : C w) (hi : I l a w) (h : ∀ a w', C w' → I (l.setIfInBounds i true) a w' → K a → K' a w')
    (hh : rOp P ops C G S i K a) : wpOp P ops Q' i K' a w := by
  unfold rOp at hh
  unfold wpOp
  split
  · rename_i ho; rw [Array.getElem?_eq_getElem hin] at ho; cases ho
  · rename_i o ho
    simp only [ho] at hh
    split
    · rename_i hw; simp only [hw, if_true] at hh; exact .inl (wp_of_opRel hS (fun v w w' => hI i o l v a w w' ho) hC hi h hh)
    · rename_i hw; simp only [hw] at hh; exact h _ _ hC (hU i o l a w ho (by simpa using hw) hi) hh
theorem wpAny_of_rel {I : Array Bool → Act → World → Prop} (hS : ∀ d v w w', C w → S d v w w' → C w') (hI : ∀ i o l v a w w', ops[i]? = some o → C w → I l a w → S o v w w' → I (l.setIfInBounds i true) (a.put o.dst v) w')
    (hU : ∀ i o l a w, ops[i]? = some o → Region.wanted o (yielded ops a.tmps) = false → I l a w → I (l.setIfInBounds i true) (a.put o.dst undef) w)
    {n g : Nat} (hn : n ≤ ops.size) {L : Array Bool → Act → Prop} {Q' : Exit → Act → World → Prop} (hL : ∀ listed a w, C w → I listed a w → L listed a → wpAny P md ops Q' g listed a w) :
    ∀ (f : Nat) (listed : Array Bool) (a : Act) (w : World), C w → I listed a w → wpAnyR P md ops C G S n L f listed a → wpAny P md ops Q' (f + g) listed a w
  | 0, listed, a, w, hw, hi, h => by rw [Nat.zero_add]; exact hL _ _ _ hw hi h
  | f + 1, listed, a, w, hw, hi, h => by
    rw [show f + 1 + g = (f + g) + 1 by omega]
    exact ⟨fun h0 => absurd h0 h.1, fun i hr => wpOp_of_rOp hS hI hU (Nat.lt_of_lt_of_le (h.2 i hr).1 hn) hw hi (fun a' w' hw' hi' h' => wpAny_of_rel hS hI hU hn hL f _ a' w' hw' hi' h') (h.2 i hr).2⟩
/-- What operation 'o' may leave in its temporary, in state 'a'. -/
def leaves (P : Program) (ops : Array Oper) (C : World → Prop) (G : FuncId → Array Value → Value → Prop) (S : Oper → Value → World → World → Prop) (o : Oper) (a : Act) (v : Value) : Prop :=
  if Region.wanted o (yielded ops a.tmps) then mayLeave P C G (execOp a.eval o) v else v = undef
def goesIn (P : Program) (ops : Array Oper) (C : World → Prop) (G : FuncId → Array Value → Value → Prop) (S : Oper → Value → World → World → Prop) (o : Oper) (a : Act) : Prop :=
  Region.wanted o (yielded ops a.tmps) = true → goesOn P C G S o (execOp a.eval o)
theorem leaves_some {o : Oper} {a : Act} (hC : ∃ w, C w) (h : goesIn P ops C G S o a) : ∃ v, leaves P ops C G S o a v := by
  unfold leaves
  by_cases hw : Region.wanted o (yielded ops a.tmps) = true
  · simp only [hw, if_true]
    obtain ⟨w, hc⟩ := hC
    have h1 := h hw w hc
    unfold mayLeave
    generalize hr : (execOp a.eval o).run P w = r at h1
    cases r with
    | ok n w' =>
      cases n <;> first | (exact absurd h1 id) | skip
      case value u => exact ⟨u, w, hc, by rw [hr]⟩
      case skip => exact ⟨undef, w, hc, by rw [hr]⟩
      case enter f args =>
        obtain ⟨e, w'', _, ⟨v, _, hg, _⟩, _⟩ := h1 []
        exact ⟨v, w, hc, by rw [hr]; exact hg⟩
    | halt x w' => exact absurd h1 id
  · simp only [hw]; exact ⟨undef, rfl⟩
theorem rOp_iff {i : Nat} {o : Oper} {a : Act} {K : Act → Prop} (hi : ops[i]? = some o) : rOp P ops C G S i K a ↔ goesIn P ops C G S o a ∧ ∀ v, leaves P ops C G S o a v → K (a.put o.dst v) := by
  unfold rOp goesIn leaves opRel
  simp only [hi]
  by_cases hw : Region.wanted o (yielded ops a.tmps) = true
  · simp [hw]
  · simp [hw]
theorem wpAnyR_first {n i : Nat} {oi : Oper} {L : Array Bool → Act → Prop} (hC : ∃ w, C w) (hi : ops[i]? = some oi) (hsel : ∀ (j : Nat) (o : Oper) cs b, ops[j]? = some o → o.op ≠ .select cs b)
    (hT : ∀ listed, HeadInv md ops n listed → ∀ i, i < n → listed.getD i true = false → ∀ t, n ≤ t → t ∉ Region.ready md ops listed) (hin : i < n)
    (hdone : ∀ listed a, L listed a → ∀ j ∈ Region.ready md ops listed, n ≤ j) :
    ∀ (f : Nat) (listed : Array Bool) (a : Act), HeadInv md ops n listed →
      (∀ j oj, ops[j]? = some oj → j ≠ i → listed.getD j true = false → (∀ e ∈ oj.after, Region.binds md e = true → e.on ≠ i) → oi.apart ops oj = true) →
      i ∈ Region.ready md ops listed → goesIn P ops C G S oi a →
      (∀ v, leaves P ops C G S oi a v → wpAnyR P md ops C G S n L f (listed.setIfInBounds i true) (a.put oi.dst v)) → wpAnyR P md ops C G S n L (f + 1) listed a := by
  intro f
  induction f with
  | zero =>
    intro listed a inv _ hr hg H
    have hun := (mem_ready.1 hr).1
    refine ⟨fun h => (by rw [h] at hr; cases hr), fun j hj => ?_⟩
    have hjn : j < n := by
      rcases Nat.lt_or_ge j n with h | h
      · exact h
      · exact absurd hj (hT _ inv i hin hun j h)
    refine ⟨hjn, ?_⟩
    by_cases hji : j = i
    · subst hji; exact (rOp_iff hi).2 ⟨hg, H⟩
    · obtain ⟨v, hv⟩ := leaves_some hC hg
      have := hdone _ _ (H v hv) j (ready_mono hj hji)
      omega
  | succ f ih =>
    intro listed a inv hfree hr hg H
    have hun := (mem_ready.1 hr).1
    refine ⟨fun h => (by rw [h] at hr; cases hr), fun j hj => ?_⟩
    have hjn : j < n := by
      rcases Nat.lt_or_ge j n with h | h
      · exact h
      · exact absurd hj (hT _ inv i hin hun j h)
    refine ⟨hjn, ?_⟩
    by_cases hji : j = i
    · subst hji; exact (rOp_iff hi).2 ⟨hg, H⟩
    · obtain ⟨hjun, oj, hoj, hall⟩ := mem_ready.1 hj
      have hnot : ∀ e ∈ oj.after, Region.binds md e = true → e.on ≠ i := fun e he hb heq => by
        have h1 := hall e he hb
        rw [heq, getD_both hun] at h1
        cases h1
      have hap := hfree j oj hoj hji hjun hnot
      obtain ⟨d1, d2, d3⟩ := Oper.apart_spec hap
      have hsi := fun cs b => hsel i oi cs b hi
      have hsj := fun cs b => hsel j oj cs b hoj
      -- the one makes no difference to the other
      have sj : ∀ v u, leaves P ops C G S oj (a.put oi.dst v) u ↔ leaves P ops C G S oj a u := fun v u => by
        unfold leaves; rw [execOp_put oj hsj a oi.dst v d1, wanted_put oj a oi.dst v d1]
      have gj : ∀ v, goesIn P ops C G S oj (a.put oi.dst v) ↔ goesIn P ops C G S oj a := fun v => by
        unfold goesIn; rw [execOp_put oj hsj a oi.dst v d1, wanted_put oj a oi.dst v d1]
      have si : ∀ u v, leaves P ops C G S oi (a.put oj.dst u) v ↔ leaves P ops C G S oi a v := fun u v => by
        unfold leaves; rw [execOp_put oi hsi a oj.dst u d3, wanted_put oi a oj.dst u d3]
      have gi : ∀ u, goesIn P ops C G S oi (a.put oj.dst u) ↔ goesIn P ops C G S oi a := fun u => by
        unfold goesIn; rw [execOp_put oi hsi a oj.dst u d3, wanted_put oi a oj.dst u d3]
      have hj2 := fun v hv => (rOp_iff hoj).1 (((H v hv).2 j (ready_mono hj hji)).2)
      obtain ⟨v0, hv0⟩ := leaves_some hC hg
      refine (rOp_iff hoj).2 ⟨(gj v0).1 (hj2 v0 hv0).1, fun u hu => ?_⟩
      have hfree' : ∀ k ok, ops[k]? = some ok → k ≠ i → (listed.setIfInBounds j true).getD k true = false →
          (∀ e ∈ ok.after, Region.binds md e = true → e.on ≠ i) → oi.apart ops ok = true := fun k ok hk hki hun hno => by
        refine hfree k ok hk hki ?_ hno
        by_cases hjk : j = k
        · subst hjk; exact hjun
        · rw [getD_set_ne true hjk] at hun; exact hun
      refine ih (listed.setIfInBounds j true) (a.put oj.dst u) (inv.set hj hjn) hfree' (ready_mono hr (Ne.symm hji)) ((gi u).2 hg) fun v hv => ?_
      have hv' := (si u v).1 hv
      have := (hj2 v hv').2 u ((sj v u).2 hu)
      rw [Array.setIfInBounds_comm _ _ hji, ← Act.put_comm a v u d2]
      exact this
theorem wpAnyR_lex {n g : Nat} {Lq : Act → Prop} (hC : ∃ w, C w) (hsel : Region.noSelect ops = true)
    (hT : ∀ listed, HeadInv md ops n listed → ∀ i, i < n → listed.getD i true = false → ∀ t, n ≤ t → t ∉ Region.ready md ops listed) :
    ∀ (l : List Oper) (k : Nat) (listed : Array Bool) (a : Act), (∀ j, j < l.length → l[j]? = ops[k + j]?) → k + l.length = n → n ≤ listed.size → HeadInv md ops n listed → (∀ i, i < k → listed.getD i false = true) →
    Region.lexHead md ops g l.length k listed = true → wpRel P ops C G S Lq l a →
    wpAnyR P md ops C G S n (fun listed' a' => Region.seqB md ops g n listed' = true ∧ (∀ i, i < n → listed'.getD i false = true) ∧ Lq a') l.length listed a
  | [], k, listed, a, _, hk, _, _, hall, hB, h => by
    have : k = n := by simpa using hk
    subst this
    exact ⟨by simpa [Region.lexHead] using hB, hall, h⟩
  | o :: l, k, listed, a, hl, hk, hsz, inv, hall, hB, h => by
    have h0 : ops[k]? = some o := by simpa using (hl 0 (by simp)).symm
    simp only [List.length_cons, Region.lexHead, Bool.and_eq_true] at hB
    obtain ⟨⟨hr, hf⟩, hB'⟩ := hB
    have hkn : k < n := by simp only [List.length_cons] at hk; omega
    have hr' : k ∈ Region.ready md ops listed := by simpa using hr
    have hst : rOp P ops C G S k (wpRel P ops C G S Lq l) a := by unfold rOp; simp only [h0]; exact h
    obtain ⟨hg, hK⟩ := (rOp_iff h0).1 hst
    refine wpAnyR_first hC h0 (Region.noSelect_spec hsel) hT hkn (fun listed' a' hL => seqB_ready hL.1) l.length listed a inv (Region.free_spec h0 hf) hr' hg
      fun v hv => wpAnyR_lex hC hsel hT l (k + 1) _ _ (fun j hj => by have := hl (j + 1) (by simp; omega); simpa [Nat.add_assoc, Nat.add_comm 1 j] using this) (by simp only [List.length_cons] at hk; omega) (by simpa using hsz) (inv.set hr' hkn) (fun i hi => ?_) hB' (hK v hv)
    by_cases e : i = k
    · subst e; simp [Array.getD_eq_getD_getElem?, Array.getElem?_setIfInBounds, show i < listed.size by omega]
    · have := hall i (by omega)
      simpa [Array.getD_eq_getD_getElem?, Array.getElem?_setIfInBounds, show ¬ k = i by omega] using this
/-- The head (its first n operations) may come in any order that its edges allow; what is behind the head comes one by one. -/
def relB (ops : Array Oper) (n : Nat) : Bool :=
  Region.noSelect ops && (decide (n = ops.size) || (decide (n < ops.size) && Region.sinkB .any ops n && Region.chainB .any ops n)) && Region.lexHead .any ops (ops.size - n) n 0 (Array.replicate ops.size false)
theorem wp_region_rel {id : Nat} {Q : Exit → Act → World → Prop} {a : Act} {w : World} {l : List Oper} (n : Nat) (C : World → Prop) (G : FuncId → Array Value → Value → Prop) (S : Oper → Value → World → World → Prop)
    (hm : P.follows .mixedOrders = true) (hB : relB l.toArray n = true) (hC : C { w with drawn := w.drawn + 1 })
    (I : Array Bool → Act → World → Prop) (hi : I (Array.replicate l.toArray.size false) a { w with drawn := w.drawn + 1 }) (hS : ∀ d v w w', C w → S d v w w' → C w')
    (hI : ∀ i o ls v a w w', l.toArray[i]? = some o → C w → I ls a w → S o v w w' → I (ls.setIfInBounds i true) (a.put o.dst v) w')
    (hU : ∀ i o ls a w, l.toArray[i]? = some o → Region.wanted o (yielded l.toArray a.tmps) = false → I ls a w → I (ls.setIfInBounds i true) (a.put o.dst undef) w)
    (h : wpRel P l.toArray C G S (fun a' => ∀ w' ls, C w' → I ls a' w' → (∀ i, i < n → ls.getD i false = true) → wpList P l.toArray Q (l.drop n) a' w') (l.take n) a) : (Code.region id l.toArray true).wp P Q a w := by
  simp only [relB, Bool.and_eq_true, Bool.or_eq_true, decide_eq_true_eq] at hB
  obtain ⟨⟨hsel, hn⟩, hlex⟩ := hB
  have hle : n ≤ l.length := by
    rcases hn with h | h
    · rw [h]; simp
    · have := h.1.1; simp at this; omega
  have htl : (l.take n).length = n := by simp; omega
  have hdl : (l.drop n).length = l.toArray.size - n := by simp
  have inv0 : HeadInv .any l.toArray n (Array.replicate l.toArray.size false) :=
    ⟨by simp, fun j oj _ hl => (by rw [getD_replicate_false] at hl; cases hl), fun t _ ht => getD_in (by simpa using ht) (getD_replicate_false _ _)⟩
  have hT : ∀ listed, HeadInv .any l.toArray n listed → ∀ i, i < n → listed.getD i true = false → ∀ t, n ≤ t → t ∉ Region.ready .any l.toArray listed := by
    intro listed inv i hin hun t ht hr
    rcases hn with h | ⟨⟨h1, h2⟩, h3⟩
    · obtain ⟨_, ot, hot, _⟩ := mem_ready.1 hr
      have := (Array.getElem?_eq_some_iff.1 hot).1
      omega
    · exact tail_waits h2 h3 h1 inv _ i rfl hin hun t ht hr
  have H := wpAnyR_lex (P := P) (md := .any) (g := l.toArray.size - n) ⟨_, hC⟩ hsel hT (l.take n) 0 _ a (fun j hj => by
    have hj' : j < n := by rw [htl] at hj; exact hj
    simp [hj']) (by simpa using htl) (by simpa using hle) inv0 (fun i hi => absurd hi (Nat.not_lt_zero _)) (by rw [htl]; exact hlex) h
  refine wp_region_any hm ?_
  have := wpAny_of_rel (Q' := Q) (g := l.toArray.size - n) hS hI hU (by simpa using hle) (fun listed a' w' hw' hi' hL => by
    have := wpAny_of_seq (md := .any) (Q' := Q) (l.drop n) n listed a' w' (fun j => by simp [List.getElem?_drop]) (by rw [hdl]; exact hL.1) (hL.2.2 w' listed hw' hi' hL.2.1)
    rwa [hdl] at this) _ _ _ _ hC hi H
  rw [htl, show n + (l.toArray.size - n) = l.toArray.size by omega] at this
  exact this
end
section
open Go.RowKit Fl
variable {P : Program} {ops : Array Oper} {G : FuncId → Array Value → Value → Prop} {C R : World → Prop} {Q : Act → Prop} {o : Oper} {rest : List Oper} {a : Act}
/-- one step: of the class it goes into the class; what is done stays done; the operation without a slot (the store) does it -/
def SW (C R : World → Prop) (o : Oper) (_ : Value) (w w' : World) : Prop := (C w → C w') ∧ (R w → R w') ∧ (o.dst = none → R w')
/-- the region, whatever order is drawn: its m-th operation is the store, and behind the head R holds -/
theorem wp_region_store {id : Nat} {Q : Exit → Act → World → Prop} {a : Act} {w : World} {l : List Oper} (n m : Nat) (C R : World → Prop) (G : FuncId → Array Value → Value → Prop)
    (hm : P.follows .mixedOrders = true) (hB : relB l.toArray n = true) (hC : C { w with drawn := w.drawn + 1 }) (hmn : m < n) (hst : (l.toArray[m]?).map (fun o => (o.dst, o.guard.isNone)) = some (none, true))
    (h : wpRel P l.toArray C G (SW C R) (fun a' => ∀ w', C w' → R w' → wpList P l.toArray Q (l.drop n) a' w') (l.take n) a) : (Code.region id l.toArray true).wp P Q a w := by
  have other : ∀ (ls : Array Bool) (i : Nat), i ≠ m → (ls.setIfInBounds i true).getD m false = true → ls.getD m false = true := fun ls i hne h => by
    simpa [Array.getD_eq_getD_getElem?, Array.getElem?_setIfInBounds, hne] using h
  refine RU.wp_region_rel n C G (SW C R) hm hB hC (fun ls _ w => ls.getD m false = true → R w) (fun h => ?_) (fun _ _ _ _ hc hs => hs.1 hc) (fun i o ls v a w w' ho hc hi hs hl => ?_) (fun i o ls a w ho hu hi hl => ?_) ?_
  · rw [getD_replicate_false] at h; cases h
  · by_cases e : i = m
    · subst e
      rw [ho] at hst
      simp only [Option.map_some, Option.some.injEq, Prod.mk.injEq] at hst
      exact hs.2.2 hst.1
    · exact hs.2.1 (hi (other ls i e hl))
  · by_cases e : i = m
    · subst e
      rw [ho] at hst
      simp only [Option.map_some, Option.some.injEq, Prod.mk.injEq] at hst
      have hg := hst.2
      unfold Region.wanted at hu
      cases hgo : o.guard with
      | none => rw [hgo] at hu; cases hu
      | some x => rw [hgo] at hg; cases hg
    · exact hi (other ls i e hl)
  · refine wpRel_mono (fun a' h' => ?_) _ h
    exact fun w' ls hc hi hall => h' w' hc (hi (hall m hmn))
theorem rel_nil (h : Q a) : wpRel P ops C G (SW C R) Q [] a := h
theorem rel_set {V : Value → Prop} (hw : Region.wanted o (yielded ops a.tmps) = true) (h : ∀ w, C w → ∃ v w', (execOp a.eval o).run P w = .ok (.value v) w' ∧ SW C R o v w w' ∧ V v)
    (k : ∀ v, V v → wpRel P ops C G (SW C R) Q rest (a.put o.dst v)) : wpRel P ops C G (SW C R) Q (o :: rest) a := by
  unfold wpRel; rw [if_pos hw]
  refine ⟨fun w hc => by obtain ⟨v, w', e, hc', _⟩ := h w hc; rw [e]; exact hc', fun u hu => ?_⟩
  obtain ⟨w, hc, hu⟩ := hu
  obtain ⟨v, w', e, _, hr⟩ := h w hc
  rw [e] at hu
  rw [show u = v from hu]; exact k v hr
theorem rel_val {v : Value} (hw : Region.wanted o (yielded ops a.tmps) = true) (hd : o.dst ≠ none) (h : ∀ w, C w → (execOp a.eval o).run P w = .ok (.value v) w)
    (k : wpRel P ops C G (SW C R) Q rest (a.put o.dst v)) : wpRel P ops C G (SW C R) Q (o :: rest) a :=
  rel_set (V := fun u => u = v) hw (fun w hc => ⟨v, w, h w hc, ⟨id, id, fun e => absurd e hd⟩, rfl⟩) (fun u hu => by subst hu; exact k)
/-- the store -/
theorem rel_skip (hw : Region.wanted o (yielded ops a.tmps) = true) (h : ∀ w, C w → ∃ w', (execOp a.eval o).run P w = .ok .skip w' ∧ C w' ∧ R w')
    (k : wpRel P ops C G (SW C R) Q rest (a.put o.dst undef)) : wpRel P ops C G (SW C R) Q (o :: rest) a := by
  unfold wpRel; rw [if_pos hw]
  refine ⟨fun w hc => by obtain ⟨w', e, h1, h2⟩ := h w hc; rw [e]; exact ⟨fun _ => h1, fun _ => h2, fun _ => h2⟩, fun u hu => ?_⟩
  obtain ⟨w, hc, hu⟩ := hu
  obtain ⟨w', e, _⟩ := h w hc
  rw [e] at hu
  rw [show u = undef from hu]; exact k
variable {dst : Option Tmp} {T : TypeId} {pos : String} {af : Array Edge} {gd : Option (Nat × Bool)}
theorem rel_move {x : Operand} {v : Value} (hx : a.eval x = v) (hw : Region.wanted ⟨dst, .move x, T, pos, af, gd⟩ (yielded ops a.tmps) = true) (hd : dst ≠ none)
    (k : wpRel P ops C G (SW C R) Q rest (a.put dst v)) : wpRel P ops C G (SW C R) Q (⟨dst, .move x, T, pos, af, gd⟩ :: rest) a :=
  rel_val hw hd (fun w hc => by unfold execOp; simp only [hx]; rfl) k
theorem rel_load_row {x : Operand} {ty : TypeId} (b o : Nat) (cs : List Value) (d : TypeDesc) (hx : a.eval x = .pointer (some ⟨b, o, none⟩)) (hw : Region.wanted ⟨dst, .load ty x, T, pos, af, gd⟩ (yielded ops a.tmps) = true) (hD : dst ≠ none)
    (hS : ∀ w, C w → w.rangeAt b o cs) (hu : P.underlying ty = some d) (hd : d.isRow = true) (hi : (P.info? ty).map (·.size) = some cs.length)
    (k : wpRel P ops C G (SW C R) Q rest (a.put dst (.agg cs.toArray))) : wpRel P ops C G (SW C R) Q (⟨dst, .load ty x, T, pos, af, gd⟩ :: rest) a :=
  rel_val hw hD (fun w hc => by
    unfold execOp
    simp only [hx, Instr.loadAt, Instr.sureAddr, Sem.run_bind, Sem.run_pure, Result.andThen_ok, run_loadVar_mid w b o ty cs d (hS w hc) hu hd hi]) k
end
section
open Go.RowKit Fl
variable {ops : Array Oper} {G : FuncId → Array Value → Value → Prop} {C R : World → Prop} {Q : Act → Prop} {rest : List Oper} {a : Act} {dst : Option Tmp} {T : TypeId} {pos : String} {af : Array Edge} {gd : Option (Nat × Bool)}
theorem rel_loadF {x : Operand} (b o r : Nat) (hx : a.eval x = .pointer (some ⟨b, o, none⟩)) (hw : Region.wanted ⟨dst, .load 31 x, T, pos, af, gd⟩ (yielded ops a.tmps) = true) (hD : dst ≠ none)
    (hS : ∀ w, C w → w.cell? ⟨b, 0 + o, none⟩ = some (.float .f64 r)) (k : wpRel Try.prog ops C G (SW C R) Q rest (a.put dst (.float .f64 r))) : wpRel Try.prog ops C G (SW C R) Q (⟨dst, .load 31 x, T, pos, af, gd⟩ :: rest) a :=
  rel_val hw hD (fun w hc => by
    have h := hS w hc
    rw [Nat.zero_add] at h
    unfold execOp
    simp only [hx]
    go_simp) k
theorem rel_fop {op : BinOp} (ho : four op = true) {t1 t2 : TypeId} {x y : Operand} {p q : Nat} {A B : Int} (hx : a.eval x = .float .f64 p) (hy : a.eval y = .float .f64 q) (hp : RV p A) (hq : RV q B)
    (hw : Region.wanted ⟨dst, .binOp op t1 x y t2, T, pos, af, gd⟩ (yielded ops a.tmps) = true) (hD : dst ≠ none) (hC : ∀ w n, C w → C (w.drewN n)) (hR : ∀ w n, R w → R (w.drewN n)) (k : ∀ r, RV r (opP op A B) → wpRel Try.prog ops C G (SW C R) Q rest (a.put dst (.float .f64 r))) :
    wpRel Try.prog ops C G (SW C R) Q (⟨dst, .binOp op t1 x y t2, T, pos, af, gd⟩ :: rest) a := by
  refine rel_set (V := fun v => ∃ r, v = .float .f64 r ∧ RV r (opP op A B)) hw (fun w hc => ⟨.float .f64 (fop op p q w), w.drewN (fopN op p q), ?_, ⟨fun h => hC _ _ h, fun h => hR _ _ h, fun e => absurd e hD⟩, ⟨_, rfl, RV.fop op hp hq w⟩⟩) (fun v ⟨r, hv, hr⟩ => by subst hv; exact k r hr)
  have h := run_fop (P := Try.prog) op ho t1 p q w
  have hg : eqGuard op t1 x y (.float .f64 p) (.float .f64 q) = pure () := by
    cases op <;> first | rfl | (cases ho)
  unfold execOp
  simp only [hx, hy, hg, Sem.run_bind, Sem.run_pure, Result.andThen_ok, h]
end
end Go.Proofs.Ytedkbjimofiphaa.RU
