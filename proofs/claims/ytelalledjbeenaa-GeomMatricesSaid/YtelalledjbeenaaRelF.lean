/- A quick check that a region's operations may be walked in the text's order: for regions of hundreds of operations. -/
import Derived.Test.YtelalledjbeenaaRelS
namespace Go.Proofs.Ytelalledjbeenaa
open Go

def waitsOf (o : Oper) : List Nat := o.after.toList.filterMap fun e => if Region.binds .any e then some e.on else none
def looksOf (o : Oper) : List Nat := o.op.operands.toList.filterMap fun | .tmp t => some t | _ => none
def noSel (o : Oper) : Bool := match o.op with | .select .. => false | _ => true
def pairOK (k : Nat) (o p : Oper) : Bool :=
  (waitsOf p).contains k || ((match o.dst with | some d => !(looksOf p).contains d && p.dst != some d | none => true) && (match p.dst with | some d => !(looksOf o).contains d | none => true))
def goL (n : Nat) : List Oper → Nat → Bool
  | [], _ => true
  | o :: rest, k => o.guard.isNone && noSel o && (waitsOf o).all (fun x => decide (x < k)) && (!decide (k < n) || (rest.all (pairOK k o) && rest.any (fun p => (waitsOf p).contains k))) && goL n rest (k + 1)
structure GL (l : List Oper) (n k i : Nat) (o : Oper) : Prop where
  g : o.guard = none
  s : noSel o = true
  w : ∀ x ∈ waitsOf o, x < k + i
  p : k + i < n → ∀ j p, i < j → l[j]? = some p → pairOK (k + i) o p = true
  a : k + i < n → ∃ j p, i < j ∧ l[j]? = some p ∧ k + i ∈ waitsOf p
theorem goL_spec {n : Nat} : ∀ (l : List Oper) (k : Nat), goL n l k = true → ∀ i o, l[i]? = some o → GL l n k i o
  | [], _, _, i, o, h => by simp at h
  | x :: rest, k, hg, i, o, h => by
    simp only [goL, Bool.and_eq_true, Bool.or_eq_true, Bool.not_eq_true', decide_eq_false_iff_not, Option.isNone_iff_eq_none, List.all_eq_true, List.any_eq_true, decide_eq_true_eq, List.contains_iff_mem] at hg
    obtain ⟨⟨⟨⟨h1, h2⟩, h3⟩, h4⟩, h5⟩ := hg
    cases i with
    | zero =>
      simp only [List.getElem?_cons_zero, Option.some.injEq] at h
      subst h
      refine ⟨h1, h2, fun y hy => by have := h3 y hy; omega, fun hk j p hj hp => ?_, fun hk => ?_⟩
      · rcases h4 with h4 | ⟨h4, _⟩
        · omega
        · obtain ⟨j, rfl⟩ : ∃ m, j = m + 1 := ⟨j - 1, by omega⟩
          rw [List.getElem?_cons_succ] at hp
          exact h4 p (List.mem_of_getElem? hp)
      · rcases h4 with h4 | ⟨_, p, hp, hw⟩
        · omega
        · obtain ⟨j, hj, e⟩ := List.mem_iff_getElem.1 hp
          exact ⟨j + 1, p, by omega, by rw [List.getElem?_cons_succ, List.getElem?_eq_getElem hj, e], hw⟩
    | succ i =>
      rw [List.getElem?_cons_succ] at h
      have G := goL_spec rest (k + 1) h5 i o h
      have e : k + 1 + i = k + (i + 1) := by omega
      refine ⟨G.g, G.s, fun y hy => by have := G.w y hy; omega, fun hk j p hj hp => ?_, fun hk => ?_⟩
      · obtain ⟨j, rfl⟩ : ∃ m, j = m + 1 := ⟨j - 1, by omega⟩
        rw [List.getElem?_cons_succ] at hp
        have := G.p (by omega) j p (by omega) hp
        rwa [e] at this
      · obtain ⟨j, p, hj, hp, hw⟩ := G.a (by omega)
        exact ⟨j + 1, p, by omega, by rw [List.getElem?_cons_succ]; exact hp, by rwa [e] at hw⟩
theorem mem_waits {o : Oper} {i : Nat} : i ∈ waitsOf o ↔ ∃ e ∈ o.after, Region.binds .any e = true ∧ e.on = i := by
  unfold waitsOf
  rw [List.mem_filterMap]
  constructor
  · rintro ⟨e, he, h⟩
    by_cases hb : Region.binds .any e = true
    · rw [if_pos hb] at h
      injection h with h
      exact ⟨e, by simpa using he, hb, h⟩
    · rw [if_neg hb] at h; cases h
  · rintro ⟨e, he, hb, h⟩
    exact ⟨e, by simpa using he, by rw [if_pos hb, h]⟩
/-- the first k are listed -/
def LI (N k : Nat) (listed : Array Bool) : Prop := listed.size = N ∧ ∀ j, j < N → listed[j]? = some (decide (j < k))
theorem LI.getD {N k : Nat} {listed : Array Bool} (h : LI N k listed) (j : Nat) (b : Bool) (hj : j < N) : listed.getD j b = decide (j < k) := by
  rw [Array.getD_eq_getD_getElem?, h.2 j hj]; rfl
theorem LI.set {N k : Nat} {listed : Array Bool} (h : LI N k listed) : LI N (k + 1) (listed.setIfInBounds k true) := by
  refine ⟨by simp [h.1], fun j hj => ?_⟩
  rw [Array.getElem?_setIfInBounds]
  by_cases e : k = j
  · subst e
    rw [if_pos rfl, if_pos (by rw [h.1]; exact hj)]
    simp
  · rw [if_neg e, h.2 j hj]
    congr 1
    rw [decide_eq_decide]; omega
section
variable {l : List Oper} {n : Nat}
theorem fast_ready (hg : goL n l 0 = true) {k : Nat} {listed : Array Bool} (hk : k < l.length) (hL : LI l.length k listed) : k ∈ Region.ready .any l.toArray listed := by
  have ho : l[k]? = some l[k] := List.getElem?_eq_getElem hk
  have G := goL_spec l 0 hg k _ ho
  refine mem_ready.2 ⟨by rw [hL.getD k true hk]; simp, l[k], by simp [ho], fun e he hb => ?_⟩
  have hw := G.w e.on (mem_waits.2 ⟨e, he, hb, rfl⟩)
  rw [hL.getD e.on false (by omega)]
  exact decide_eq_true (by omega)
theorem apart_eq {ops : Array Oper} {o p : Oper} (ho : o.guard = none) (hp : p.guard = none) : o.apart ops p = ((match o.dst with | some d => !(looksOf p).contains d && p.dst != some d | none => true) && (match p.dst with | some d => !(looksOf o).contains d | none => true)) := by
  unfold Oper.apart Oper.looksAt looksOf
  rw [ho, hp]
  simp only [List.append_nil]
  cases o.dst <;> cases p.dst <;> rfl
theorem fast_free (hg : goL n l 0 = true) {k : Nat} {listed : Array Bool} (hk : k < l.length) (hn : k < n) (hL : LI l.length k listed) : Region.free .any l.toArray listed k = true := by
  have ho : l[k]? = some l[k] := List.getElem?_eq_getElem hk
  have G := goL_spec l 0 hg k _ ho
  unfold Region.free
  rw [List.getElem?_toArray, ho]
  simp only [List.all_eq_true, List.mem_range, List.size_toArray]
  intro j hj
  by_cases hjk : j ≤ k
  · by_cases e : j = k
    · simp [e]
    · rw [hL.getD j true hj]
      simp [show j < k by omega]
  · have hp : l[j]? = some l[j] := List.getElem?_eq_getElem hj
    have P := G.p (by omega) j _ (by omega) hp
    have G2 := goL_spec l 0 hg j _ hp
    rw [List.getElem?_toArray, hp]
    simp only [Bool.or_eq_true]
    right
    rw [apart_eq G.g G2.g]
    simp only [pairOK, Bool.or_eq_true, List.contains_iff_mem, Nat.zero_add] at P
    rcases P with P | P
    · left
      obtain ⟨e, he, hb, hon⟩ := mem_waits.1 P
      exact Array.any_eq_true'.2 ⟨e, he, by rw [hb, hon]; simp⟩
    · right; exact P
theorem fast_lex (hg : goL n l 0 = true) (hN : l.length = n + 1) : ∀ (f k : Nat) (listed : Array Bool), k + f = n → LI l.length k listed → Region.lexHead .any l.toArray 1 f k listed = true
  | 0, k, listed, hk, hL => by
    have hkn : k = n := by omega
    subst hkn
    unfold Region.lexHead Region.seqB Region.seqB
    have h1 : Region.ready .any l.toArray listed = [k] := by
      have hm := fast_ready hg (show k < l.length by omega) hL
      have hall : ∀ j ∈ Region.ready .any l.toArray listed, j = k := fun j hj => by
        obtain ⟨hu, o, ho, _⟩ := mem_ready.1 hj
        have hjl : j < l.length := by rw [List.getElem?_toArray] at ho; exact (List.getElem?_eq_some_iff.1 ho).1
        rw [hL.getD j true hjl] at hu
        have := of_decide_eq_false hu
        omega
      have hnd : (Region.ready .any l.toArray listed).Nodup := by unfold Region.ready; exact List.Nodup.sublist List.filter_sublist List.nodup_range
      generalize Region.ready .any l.toArray listed = r at *
      match r, hm, hall, hnd with
      | [x], _, hall, _ => rw [hall x (by simp)]
      | x :: y :: r, _, hall, hnd =>
        have e1 := hall x (by simp)
        have e2 := hall y (by simp)
        simp [e1, e2] at hnd
    have h2 : Region.ready .any l.toArray (listed.setIfInBounds k true) = [] := by
      have hL' := hL.set
      refine List.eq_nil_iff_forall_not_mem.2 fun j hj => ?_
      obtain ⟨hu, o, ho, _⟩ := mem_ready.1 hj
      have hjl : j < l.length := by rw [List.getElem?_toArray] at ho; exact (List.getElem?_eq_some_iff.1 ho).1
      rw [hL'.getD j true hjl] at hu
      have := of_decide_eq_false hu
      omega
    rw [h1, h2]
    simp
  | f + 1, k, listed, hk, hL => by
    unfold Region.lexHead
    rw [fast_lex hg hN f (k + 1) _ (by omega) hL.set, fast_free hg (by omega) (by omega) hL]
    simp only [Bool.and_true, List.contains_iff_mem]
    exact fast_ready hg (by omega) hL
theorem fast_relB (h : (goL n l 0 && decide (l.length = n + 1)) = true) : RB.relB l.toArray n = true := by
  simp only [Bool.and_eq_true, decide_eq_true_eq] at h
  obtain ⟨hg, hN⟩ := h
  unfold RB.relB
  simp only [Bool.and_eq_true, Bool.or_eq_true, decide_eq_true_eq, List.size_toArray]
  refine ⟨⟨?_, .inr ⟨⟨by omega, ?_⟩, ?_⟩⟩, ?_⟩
  · unfold Region.noSelect
    rw [List.all_toArray, List.all_eq_true]
    intro o ho
    obtain ⟨i, hi, rfl⟩ := List.mem_iff_getElem.1 ho
    exact (goL_spec l 0 hg i _ (List.getElem?_eq_getElem hi)).s
  · unfold Region.sinkB
    simp only [List.all_eq_true, List.mem_range, List.any_eq_true, Bool.and_eq_true, decide_eq_true_eq]
    intro i hi
    obtain ⟨j, p, hj, hp, hw⟩ := (goL_spec l 0 hg i _ (List.getElem?_eq_getElem (show i < l.length by omega))).a (by omega)
    have hjl : j < l.length := (List.getElem?_eq_some_iff.1 hp).1
    refine ⟨j, by omega, hj, ?_⟩
    unfold Region.waitsFor
    rw [List.getElem?_toArray, hp]
    rw [Nat.zero_add] at hw
    obtain ⟨e, he, hb, hon⟩ := mem_waits.1 hw
    exact Array.any_eq_true'.2 ⟨e, he, by rw [hb, hon]; simp⟩
  · unfold Region.chainB
    simp only [List.all_eq_true, List.mem_range, List.size_toArray, Bool.or_eq_true, decide_eq_true_eq]
    intro t ht
    left; omega
  · rw [hN, show n + 1 - n = 1 by omega]
    refine fast_lex hg hN n 0 _ (by omega) ⟨by simp [hN], fun j hj => ?_⟩
    rw [hN] at hj
    simp [hj]
end
end Go.Proofs.Ytelalledjbeenaa
