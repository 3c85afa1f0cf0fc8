/- Stable merging of lists by a key: plain laws. Lists that are sorted in place: swaps, rotations, stable blocks: plain laws. -/
import Derived.Test.YtedkbjimofiphaaProg
namespace Go.Proofs.Ytedkbjimofiphaa
section
variable {α : Type} (k : α → Int)
/-- a stable merge: the left one's elements stand ahead of the right one's of the same key -/
def mg : List α → List α → List α
  | [], b => b
  | x :: a, [] => x :: a
  | x :: a, y :: b => if k y < k x then y :: mg (x :: a) b else x :: mg a (y :: b)
termination_by a b => a.length + b.length
theorem mg_nil (b : List α) : mg k [] b = b := by unfold mg; rfl
theorem mg_nil_r (a : List α) : mg k a [] = a := by cases a <;> (unfold mg; rfl)
theorem mg_lt {x y : α} {a b : List α} (h : k y < k x) : mg k (x :: a) (y :: b) = y :: mg k (x :: a) b := by rw [mg, if_pos h]
theorem mg_ge {x y : α} {a b : List α} (h : k x ≤ k y) : mg k (x :: a) (y :: b) = x :: mg k a (y :: b) := by rw [mg, if_neg (by omega)]
theorem mg_length (a b : List α) : (mg k a b).length = a.length + b.length := by
  induction a generalizing b with
  | nil => rw [mg_nil]; simp
  | cons x a iha =>
    induction b with
    | nil => rw [mg_nil_r]; simp
    | cons y b ihb =>
      by_cases h : k y < k x
      · rw [mg_lt k h, List.length_cons, ihb]; simp only [List.length_cons]; omega
      · rw [mg_ge k (by omega), List.length_cons, iha]; simp only [List.length_cons]; omega
theorem mg_perm (a b : List α) : (mg k a b).Perm (a ++ b) := by
  induction a generalizing b with
  | nil => rw [mg_nil]; exact .refl _
  | cons x a iha =>
    induction b with
    | nil => rw [mg_nil_r, List.append_nil]
    | cons y b ihb =>
      by_cases h : k y < k x
      · rw [mg_lt k h]; exact (ihb.cons y).trans List.perm_middle.symm
      · rw [mg_ge k (by omega)]; exact (iha (y :: b)).cons x
theorem mg_assoc (a b c : List α) : mg k (mg k a b) c = mg k a (mg k b c) := by
  induction a generalizing b c with
  | nil => rw [mg_nil, mg_nil]
  | cons x a iha =>
    induction b generalizing c with
    | nil => rw [mg_nil_r, mg_nil]
    | cons y b ihb =>
      induction c with
      | nil => rw [mg_nil_r, mg_nil_r]
      | cons z c ihc =>
        by_cases h : k y < k x
        · by_cases h2 : k z < k y
          · rw [mg_lt k h2, mg_lt k (show k z < k x by omega), ← ihc]
            rw [mg_lt k h, mg_lt k h2]
          · rw [mg_ge k (show k y ≤ k z by omega), mg_lt k h, mg_lt k h, mg_ge k (show k y ≤ k z by omega), ihb]
        · by_cases h2 : k z < k x
          · rw [mg_lt k (show k z < k y by omega), mg_lt k h2, ← ihc, mg_ge k (show k x ≤ k y by omega), mg_lt k h2]
          · rw [mg_ge k (show k x ≤ k y by omega), mg_ge k (show k x ≤ k z by omega), iha]
            by_cases h3 : k z < k y
            · rw [mg_lt k h3, mg_ge k (show k x ≤ k z by omega)]
            · rw [mg_ge k (show k y ≤ k z by omega), mg_ge k (show k x ≤ k y by omega)]
theorem mg_split (L1 L2 R1 R2 : List α) (h1 : ∀ x ∈ L1, ∀ y ∈ R2, k x ≤ k y) (h2 : ∀ y ∈ R1, ∀ x ∈ L2, k y < k x) : mg k (L1 ++ L2) (R1 ++ R2) = mg k L1 R1 ++ mg k L2 R2 := by
  induction L1 generalizing R1 with
  | nil =>
    induction R1 with
    | nil => rw [List.nil_append, List.nil_append, mg_nil, List.nil_append]
    | cons y R1 ih =>
      cases L2 with
      | nil => rw [List.nil_append, mg_nil, mg_nil, mg_nil]
      | cons x L2 =>
        rw [List.nil_append, List.cons_append, mg_lt k (h2 y (List.mem_cons_self ..) x (List.mem_cons_self ..)), mg_nil, List.cons_append]
        have := ih (fun y hy => h2 y (List.mem_cons_of_mem _ hy))
        rw [List.nil_append, mg_nil] at this
        rw [this]
  | cons x L1 ihL =>
    have hL := fun (R : List α) h => ihL R (fun z hz => h1 z (List.mem_cons_of_mem _ hz)) h
    induction R1 with
    | nil =>
      cases R2 with
      | nil => rw [List.nil_append, mg_nil_r, mg_nil_r, mg_nil_r]
      | cons y R2 =>
        rw [List.nil_append, List.cons_append, mg_ge k (h1 x (List.mem_cons_self ..) y (List.mem_cons_self ..)), mg_nil_r, List.cons_append]
        have := hL [] h2
        rw [List.nil_append, mg_nil_r] at this
        rw [this]
    | cons y R1 ihR =>
      by_cases h : k y < k x
      · have := ihR (fun z hz => h2 z (List.mem_cons_of_mem _ hz))
        rw [List.cons_append] at this
        rw [List.cons_append, List.cons_append, mg_lt k h, this, mg_lt k h, List.cons_append]
      · have := hL (y :: R1) h2
        rw [List.cons_append] at this
        rw [List.cons_append, List.cons_append, mg_ge k (by omega), this, mg_ge k (by omega), List.cons_append]
/-- one element put into a sorted list, behind its likes -/
theorem mg_one {s1 s2 : List α} {x : α} (h1 : ∀ y ∈ s1, k y ≤ k x) (h2 : ∀ y ∈ s2, k x < k y) : mg k (s1 ++ s2) [x] = s1 ++ x :: s2 := by
  have e := mg_split k s1 s2 [x] [] (fun _ _ y hy => by cases hy) (fun y hy z hz => by rw [List.mem_singleton.1 hy]; exact h2 z hz)
  rw [List.append_nil, mg_nil_r] at e
  have f := mg_split k s1 [] [] [x] (fun z hz y hy => by rw [List.mem_singleton.1 hy]; exact h1 z hz) (fun y hy => by cases hy)
  rw [List.append_nil, List.nil_append, mg_nil_r, mg_nil] at f
  rw [e, f, List.append_assoc]; rfl
/-- one element put into a sorted list, ahead of its likes -/
theorem mg_first {s1 s2 : List α} {x : α} (h1 : ∀ y ∈ s1, k y < k x) (h2 : ∀ y ∈ s2, k x ≤ k y) : mg k [x] (s1 ++ s2) = s1 ++ x :: s2 := by
  have e := mg_split k [] [x] s1 s2 (fun z hz => by cases hz) (fun y hy z hz => by rw [List.mem_singleton.1 hz]; exact h1 y hy)
  rw [List.nil_append, mg_nil] at e
  have f := mg_split k [x] [] [] s2 (fun z hz y hy => by rw [List.mem_singleton.1 hz]; exact h2 y hy) (fun y hy => by cases hy)
  rw [List.append_nil, List.nil_append, mg_nil_r, mg_nil] at f
  rw [e, f]; rfl
def Sd (l : List α) : Prop := l.Pairwise (fun x y => k x ≤ k y)
theorem mg_sd {a b : List α} (ha : Sd k a) (hb : Sd k b) : Sd k (mg k a b) := by
  unfold Sd at *
  induction a generalizing b with
  | nil => rw [mg_nil]; exact hb
  | cons x a iha =>
    induction b with
    | nil => rw [mg_nil_r]; exact ha
    | cons y b ihb =>
      have ha' := List.pairwise_cons.1 ha
      have hb' := List.pairwise_cons.1 hb
      by_cases h : k y < k x
      · rw [mg_lt k h]
        refine List.pairwise_cons.2 ⟨fun z hz => ?_, ihb hb'.2⟩
        rcases List.mem_append.1 ((mg_perm k (x :: a) b).mem_iff.1 hz) with h1 | h1
        · rcases List.mem_cons.1 h1 with rfl | h1
          · omega
          · have := ha'.1 z h1; omega
        · exact hb'.1 z h1
      · rw [mg_ge k (by omega)]
        refine List.pairwise_cons.2 ⟨fun z hz => ?_, iha ha'.2 hb⟩
        rcases List.mem_append.1 ((mg_perm k a (y :: b)).mem_iff.1 hz) with h1 | h1
        · exact ha'.1 z h1
        · rcases List.mem_cons.1 h1 with rfl | h1
          · omega
          · have := hb'.1 z h1; omega
/-- the stable order -/
def stab (l : List α) : List α := l.foldl (fun acc x => mg k acc [x]) []
theorem stab_snoc (l : List α) (x : α) : stab k (l ++ [x]) = mg k (stab k l) [x] := by unfold stab; rw [List.foldl_append]; rfl
theorem snoc_ind {P : List α → Prop} (h0 : P []) (h1 : ∀ l x, P l → P (l ++ [x])) (l : List α) : P l := by
  rw [← List.reverse_reverse l]
  induction l.reverse with
  | nil => exact h0
  | cons x r ih => rw [List.reverse_cons]; exact h1 _ _ ih
theorem stab_append (a b : List α) : stab k (a ++ b) = mg k (stab k a) (stab k b) := by
  induction b using snoc_ind with
  | h0 => rw [List.append_nil]; unfold stab; rw [List.foldl_nil, mg_nil_r]
  | h1 b x ih => rw [← List.append_assoc, stab_snoc, ih, mg_assoc, ← stab_snoc]
theorem stab_perm (l : List α) : (stab k l).Perm l := by
  induction l using snoc_ind with
  | h0 => exact .refl _
  | h1 l x ih => rw [stab_snoc]; exact (mg_perm k _ _).trans (ih.append_right _)
theorem stab_length (l : List α) : (stab k l).length = l.length := (stab_perm k l).length_eq
theorem stab_sd (l : List α) : Sd k (stab k l) := by
  induction l using snoc_ind with
  | h0 => exact .nil
  | h1 l x ih => rw [stab_snoc]; exact mg_sd k ih (List.pairwise_singleton ..)
theorem stab_single (x : α) : stab k [x] = [x] := by show mg k [] [x] = [x]; rw [mg_nil]
theorem Sd.append_left {a b : List α} (h : Sd k (a ++ b)) : Sd k a := (List.pairwise_append.1 h).1
theorem Sd.append_right {a b : List α} (h : Sd k (a ++ b)) : Sd k b := (List.pairwise_append.1 h).2.1
end
end Go.Proofs.Ytedkbjimofiphaa

namespace Go.Proofs.Ytedkbjimofiphaa
section
variable {α : Type}
theorem set_mid {A B : List α} {y : α} (x : α) {m : Nat} (h : m = A.length) : (A ++ y :: B).set m x = A ++ x :: B := by
  subst h
  rw [List.set_append_right _ _ (Nat.le_refl _), Nat.sub_self, List.set_cons_zero]
theorem get_mid {A B : List α} {y : α} {m : Nat} (h : m = A.length) : (A ++ y :: B)[m]? = some y := by
  subst h
  rw [List.getElem?_append_right (Nat.le_refl _), Nat.sub_self, List.getElem?_cons_zero]
theorem swap_next {A B : List α} {y x : α} {m k : Nat} (h : m = A.length) (hk : k = A.length + 1) : ((A ++ y :: x :: B).set k y).set m x = A ++ x :: y :: B := by
  have e : A ++ y :: x :: B = (A ++ [y]) ++ x :: B := by simp
  rw [e, set_mid y (by simp [hk])]
  have e2 : (A ++ [y]) ++ y :: B = A ++ y :: (y :: B) := by simp
  rw [e2, set_mid x h]
theorem swap_next2 {A B : List α} {y x : α} {m k : Nat} (h : m = A.length) (hk : k = A.length + 1) : ((A ++ y :: x :: B).set m x).set k y = A ++ x :: y :: B := by
  rw [set_mid x h]
  have e2 : A ++ x :: (x :: B) = (A ++ [x]) ++ x :: B := by simp
  rw [e2, set_mid y (by simp [hk])]
  simp
theorem get_next {A B : List α} {y x : α} {k : Nat} (hk : k = A.length + 1) : (A ++ y :: x :: B)[k]? = some x := by
  have e : A ++ y :: x :: B = (A ++ [y]) ++ x :: B := by simp
  rw [e, get_mid (by simp [hk])]
/-- a swap of two places that stand apart -/
theorem swap_far {A M B : List α} {x y : α} {m k : Nat} (h : m = A.length) (hk : k = A.length + 1 + M.length) :
    ((A ++ x :: (M ++ y :: B)).set m y).set k x = A ++ y :: (M ++ x :: B) := by
  rw [set_mid y h]
  have e : A ++ y :: (M ++ y :: B) = (A ++ y :: M) ++ y :: B := by simp
  rw [e, set_mid x (by simp [hk]; omega)]
  simp
theorem get_far {A M B : List α} {x y : α} {k : Nat} (hk : k = A.length + 1 + M.length) : (A ++ x :: (M ++ y :: B))[k]? = some y := by
  have e : A ++ x :: (M ++ y :: B) = (A ++ x :: M) ++ y :: B := by simp
  rw [e, get_mid (by simp [hk]; omega)]
theorem cons_of_len {l : List α} {n : Nat} (h : l.length = n + 1) : ∃ x t, l = x :: t ∧ t.length = n := by
  cases l with
  | nil => cases h
  | cons x t => exact ⟨x, t, rfl, by simpa using h⟩
theorem snoc_of_len {l : List α} {n : Nat} (h : l.length = n + 1) : ∃ x t, l = t ++ [x] ∧ t.length = n := by
  have hr : l.reverse.length = n + 1 := by rw [List.length_reverse]; exact h
  obtain ⟨x, t, e, ht⟩ := cons_of_len hr
  exact ⟨x, t.reverse, by rw [← List.reverse_reverse l, e, List.reverse_cons], by rw [List.length_reverse]; exact ht⟩
theorem split_at (l : List α) (n : Nat) (h : n ≤ l.length) : ∃ a b, l = a ++ b ∧ a.length = n ∧ b.length = l.length - n :=
  ⟨l.take n, l.drop n, (List.take_append_drop n l).symm, by rw [List.length_take]; omega, by rw [List.length_drop]⟩
/-- two parts that are exchanged, place by place -/
def sw (A X M Y Z : List α) (i : Nat) : List α := A ++ (Y.take i ++ (X.drop i ++ (M ++ (X.take i ++ (Y.drop i ++ Z)))))
theorem sw_start (A X M Y Z : List α) : sw A X M Y Z 0 = A ++ (X ++ (M ++ (Y ++ Z))) := by unfold sw; simp
theorem sw_end {A X M Y Z : List α} {n : Nat} (hX : X.length = n) (hY : Y.length = n) : sw A X M Y Z n = A ++ (Y ++ (M ++ (X ++ Z))) := by
  unfold sw; rw [List.take_of_length_le (by omega), List.take_of_length_le (by omega), List.drop_of_length_le (by omega), List.drop_of_length_le (by omega)]; simp
theorem sw_len {A X M Y Z : List α} {i : Nat} : (sw A X M Y Z i).length = (A ++ (X ++ (M ++ (Y ++ Z)))).length := by
  unfold sw
  have h1 := congrArg List.length (List.take_append_drop i X)
  have h2 := congrArg List.length (List.take_append_drop i Y)
  simp only [List.length_append] at *
  omega
theorem sw_step {A X M Y Z : List α} {n i : Nat} (hX : X.length = n) (hY : Y.length = n) (hi : i < n) : ∃ x y A' M' B', sw A X M Y Z i = A' ++ x :: (M' ++ y :: B') ∧ sw A X M Y Z (i + 1) = A' ++ y :: (M' ++ x :: B') ∧
    A'.length = A.length + i ∧ A'.length + 1 + M'.length = A.length + n + M.length + i := by
  obtain ⟨x, eX, fX⟩ : ∃ x, X.drop i = x :: X.drop (i + 1) ∧ X.take (i + 1) = X.take i ++ [x] := ⟨X[i], List.drop_eq_getElem_cons (by omega), List.take_succ_eq_append_getElem (by omega)⟩
  obtain ⟨y, eY, fY⟩ : ∃ y, Y.drop i = y :: Y.drop (i + 1) ∧ Y.take (i + 1) = Y.take i ++ [y] := ⟨Y[i], List.drop_eq_getElem_cons (by omega), List.take_succ_eq_append_getElem (by omega)⟩
  refine ⟨x, y, A ++ Y.take i, X.drop (i + 1) ++ (M ++ X.take i), Y.drop (i + 1) ++ Z, ?_, ?_, ?_, ?_⟩
  · unfold sw
    rw [eX, eY]
    generalize X.drop (i + 1) = X1
    generalize Y.drop (i + 1) = Y1
    simp
  · unfold sw; rw [fX, fY]; simp
  · rw [List.length_append, List.length_take]; omega
  · simp only [List.length_append, List.length_take, List.length_drop]; omega
variable (k : α → Int)
/-- each block of so many is sorted for itself -/
def blk (s : Nat) (l : List α) : List α := if h : l.length ≤ s ∨ s = 0 then stab k l else stab k (l.take s) ++ blk s (l.drop s)
termination_by l.length
decreasing_by rw [List.length_drop]; omega
theorem blk_small {s : Nat} {l : List α} (h : l.length ≤ s) : blk k s l = stab k l := by rw [blk, dif_pos (Or.inl h)]
theorem blk_append {s : Nat} {a l : List α} (hs : 0 < s) (ha : a.length = s) (hl : 0 < l.length) : blk k s (a ++ l) = stab k a ++ blk k s l := by
  rw [blk, dif_neg (by rw [List.length_append]; omega), ← ha, List.take_left', List.drop_left'] <;> rfl
theorem stab_nil : stab k [] = [] := rfl
theorem blk_nil {s : Nat} : blk k s [] = [] := by rw [blk_small k (Nat.zero_le _)]; rfl
theorem blk_cons {s : Nat} {a l : List α} (hs : 0 < s) (ha : a.length = s) : blk k s (a ++ l) = stab k a ++ blk k s l := by
  by_cases hl : 0 < l.length
  · exact blk_append k hs ha hl
  · have : l = [] := List.length_eq_zero_iff.1 (by omega)
    subst this
    rw [List.append_nil, blk_nil, List.append_nil, blk_small k (by omega)]
theorem blk_length (s : Nat) (l : List α) : (blk k s l).length = l.length := by
  induction l using (measure List.length).wf.induction with
  | _ l ih =>
    rw [blk]
    split
    · exact stab_length k l
    · rename_i h
      rw [List.length_append, stab_length, ih (l.drop s) (by show (l.drop s).length < l.length; rw [List.length_drop]; omega), List.length_take, List.length_drop]
      omega
theorem lasts {l : List α} {x : α} (h : Sd k (l ++ [x])) : ∀ y ∈ l, k y ≤ k x := fun y hy => (List.pairwise_append.1 h).2.2 y hy x (List.mem_singleton.2 rfl)
theorem Sd.two {a b : List α} {x y : α} (h : Sd k (a ++ b)) (hx : x ∈ a) (hy : y ∈ b) : k x ≤ k y := (List.pairwise_append.1 h).2.2 x hx y hy
end
end Go.Proofs.Ytedkbjimofiphaa
