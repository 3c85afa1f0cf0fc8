/- Boxes beneath boxes, in the order of their keys: plain laws. -/
import Derived.Test.YtedkbjimofiphaaMgSrt
namespace Go.Proofs.Ytedkbjimofiphaa

section
variable (n : Nat) (ab : Nat → Option Nat) (key : Nat → Int)
def kids (p : Option Nat) : List Nat := (List.range n).filter (fun i => ab i == p)
def sub : Nat → Nat → List Nat
  | 0, i => [i]
  | f + 1, i => i :: (stab key (kids n ab (some i))).flatMap (sub f)
/-- all beneath one -/
def tr (i : Nat) : List Nat := sub n ab key n i
def whole : List Nat := (stab key (kids n ab none)).flatMap (tr n ab key)
variable {n ab key}
theorem mem_kids {p : Option Nat} {x : Nat} : x ∈ kids n ab p ↔ x < n ∧ ab x = p := by
  unfold kids; rw [List.mem_filter, List.mem_range, beq_iff_eq]
theorem mem_stab {l : List Nat} {x : Nat} : x ∈ stab key l ↔ x ∈ l := (stab_perm key l).mem_iff
theorem kids_nodup (p : Option Nat) : (kids n ab p).Nodup := List.nodup_range.filter _
theorem stab_nodup {l : List Nat} (h : l.Nodup) : (stab key l).Nodup := (stab_perm key l).nodup_iff.2 h
theorem flatMap_same {l : List Nat} {f g : Nat → List Nat} (h : ∀ x ∈ l, f x = g x) : l.flatMap f = l.flatMap g := by
  induction l with
  | nil => rfl
  | cons x l ih => rw [List.flatMap_cons, List.flatMap_cons, h x (List.mem_cons_self ..), ih fun y hy => h y (List.mem_cons_of_mem _ hy)]
variable (H : ∀ i k, i < n → ab i = some k → k < i)
include H
theorem sub_fuel (f : Nat) : ∀ i, n ≤ i + 1 + f → sub n ab key (f + 1) i = sub n ab key f i := by
  induction f with
  | zero =>
    intro i hi
    have e : kids n ab (some i) = [] := List.eq_nil_iff_forall_not_mem.2 fun x hx => by
      have := mem_kids.1 hx
      have := H x i this.1 this.2
      omega
    show i :: _ = [i]
    rw [e]; rfl
  | succ f ih =>
    intro i hi
    show i :: _ = i :: _
    rw [flatMap_same fun x hx => ?_]
    have hx := mem_kids.1 (mem_stab.1 hx)
    have := H x i hx.1 hx.2
    exact ih x (by omega)
theorem tr_step (i : Nat) : tr n ab key i = i :: (stab key (kids n ab (some i))).flatMap (tr n ab key) := by
  unfold tr
  rw [← sub_fuel H n i (by omega)]
  rfl
omit H in
theorem tr_infix {l : List Nat} {x : Nat} (hx : x ∈ l) : ∃ P Q, l.flatMap (tr n ab key) = P ++ tr n ab key x ++ Q := by
  obtain ⟨A, B, rfl⟩ := List.append_of_mem hx
  exact ⟨A.flatMap _, B.flatMap _, by rw [List.flatMap_append, List.flatMap_cons, List.append_assoc]⟩
theorem tr_under {i x : Nat} (hx : x < n) (ha : ab x = some i) : ∃ P Q, tr n ab key i = i :: (P ++ tr n ab key x ++ Q) := by
  rw [tr_step H i]
  obtain ⟨P, Q, e⟩ := tr_infix (n := n) (ab := ab) (key := key) (mem_stab.2 (mem_kids.2 ⟨hx, ha⟩))
  exact ⟨P, Q, by rw [e]⟩
theorem whole_infix (x : Nat) (hx : x < n) : ∃ P Q, whole n ab key = P ++ tr n ab key x ++ Q := by
  induction x using Nat.strongRecOn with
  | ind x ih =>
    cases ha : ab x with
    | none => exact tr_infix (mem_stab.2 (mem_kids.2 ⟨hx, ha⟩))
    | some k =>
      have hk := H x k hx ha
      obtain ⟨P, Q, e⟩ := ih k hk (by omega)
      obtain ⟨P', Q', e'⟩ := tr_under H (key := key) hx ha
      exact ⟨P ++ k :: P', Q' ++ Q, by rw [e, e']; simp⟩
theorem tr_self (x : Nat) : x ∈ tr n ab key x := by rw [tr_step H x]; exact List.mem_cons_self ..
theorem whole_mem (x : Nat) (hx : x < n) : x ∈ whole n ab key := by
  obtain ⟨P, Q, e⟩ := whole_infix H (key := key) x hx
  rw [e]
  exact List.mem_append_left _ (List.mem_append_right _ (tr_self H x))
omit H in
/-- an ancestor, or it itself -/
inductive Up (n : Nat) (ab : Nat → Option Nat) (i : Nat) : Nat → Prop
  | self : Up n ab i i
  | step {x k : Nat} : x < n → ab x = some k → Up n ab i k → Up n ab i x
theorem Up.le {i x : Nat} (h : Up n ab i x) : i ≤ x := by
  induction h with
  | self => exact Nat.le_refl _
  | step hx ha _ ih => have := H _ _ hx ha; omega
omit H in
theorem Up.lt {i x : Nat} (h : Up n ab i x) (hi : i < n) : x < n := by
  cases h with
  | self => exact hi
  | step hx _ _ => exact hx
omit H in
theorem Up.trans {i k x : Nat} (h : Up n ab i k) (h2 : Up n ab k x) : Up n ab i x := by
  induction h2 with
  | self => exact h
  | step hx ha _ ih => exact .step hx ha ih
omit H in
theorem Up.line {i k x : Nat} (h : Up n ab i x) (h2 : Up n ab k x) : Up n ab i k ∨ Up n ab k i := by
  induction h generalizing k with
  | self => exact Or.inr h2
  | step hx ha hi ih =>
    cases h2 with
    | self => exact Or.inl (.step hx ha hi)
    | step hx2 ha2 hk =>
      rw [ha] at ha2
      cases ha2
      exact ih hk
omit H in
theorem mem_sub {f i x : Nat} : x ∈ sub n ab key f i → Up n ab i x := by
  induction f generalizing i with
  | zero => intro h; rw [sub, List.mem_singleton] at h; exact h ▸ .self
  | succ f ih =>
    intro h
    rw [sub, List.mem_cons, List.mem_flatMap] at h
    rcases h with rfl | ⟨y, hy, hx⟩
    · exact .self
    · have hy := mem_kids.1 (mem_stab.1 hy)
      exact (Up.step hy.1 hy.2 .self).trans (ih hx)
theorem Up.infix {i x : Nat} (h : Up n ab i x) : ∃ P Q, tr n ab key i = P ++ tr n ab key x ++ Q := by
  induction h with
  | self => exact ⟨[], [], by simp⟩
  | @step x k hx ha _ ih =>
    obtain ⟨P, Q, e⟩ := ih
    obtain ⟨P', Q', e'⟩ := tr_under H (key := key) hx ha
    exact ⟨P ++ k :: P', Q' ++ Q, by rw [e, e']; simp⟩
theorem mem_tr {i x : Nat} : x ∈ tr n ab key i ↔ Up n ab i x :=
  ⟨mem_sub, fun h => by
    obtain ⟨P, Q, e⟩ := h.infix H (key := key)
    rw [e]
    exact List.mem_append_left _ (List.mem_append_right _ (tr_self H x))⟩
theorem sibs {p : Option Nat} {c d x : Nat} (hc : c < n) (hd : d < n) (ec : ab c = p) (ed : ab d = p) (h : Up n ab c x) (h2 : Up n ab d x) : c = d := by
  have side : ∀ {c d : Nat}, c < n → ab c = p → d < n → ab d = p → Up n ab c d → c = d := fun {c d} hc ec hd ed h => by
    cases h with
    | self => rfl
    | @step _ k _ ha hk =>
      rw [ed] at ha
      subst ha
      have := H c k hc ec
      have := hk.le H
      omega
  rcases h.line h2 with h | h
  · exact side hc ec hd ed h
  · exact (side hd ed hc ec h).symm
omit H in
theorem flat_nodup {l : List Nat} {g : Nat → List Nat} (h : l.Nodup) (h1 : ∀ x ∈ l, (g x).Nodup) (h2 : ∀ x ∈ l, ∀ y ∈ l, ∀ z, z ∈ g x → z ∈ g y → x = y) : (l.flatMap g).Nodup := by
  induction l with
  | nil => exact List.nodup_nil
  | cons x l ih =>
    rw [List.flatMap_cons, List.nodup_append]
    have hn := List.nodup_cons.1 h
    refine ⟨h1 x (List.mem_cons_self ..), ih hn.2 (fun y hy => h1 y (List.mem_cons_of_mem _ hy)) (fun y hy z hz => h2 y (List.mem_cons_of_mem _ hy) z (List.mem_cons_of_mem _ hz)), ?_⟩
    intro a ha b hb e
    subst e
    obtain ⟨y, hy, hay⟩ := List.mem_flatMap.1 hb
    have := h2 x (List.mem_cons_self ..) y (List.mem_cons_of_mem _ hy) a ha hay
    subst this
    exact hn.1 hy
theorem row_nodup {p : Option Nat} (h : ∀ x ∈ kids n ab p, (tr n ab key x).Nodup) : ((stab key (kids n ab p)).flatMap (tr n ab key)).Nodup :=
  flat_nodup (stab_nodup (kids_nodup p)) (fun x hx => h x (mem_stab.1 hx)) fun x hx y hy z hz hz2 =>
    have hx := mem_kids.1 (mem_stab.1 hx)
    have hy := mem_kids.1 (mem_stab.1 hy)
    sibs H hx.1 hy.1 hx.2 hy.2 ((mem_tr H).1 hz) ((mem_tr H).1 hz2)
theorem tr_nodup (d : Nat) : ∀ i, n ≤ i + d → (tr n ab key i).Nodup := by
  induction d with
  | zero =>
    intro i hi
    have e : kids n ab (some i) = [] := List.eq_nil_iff_forall_not_mem.2 fun x hx => by
      have := mem_kids.1 hx
      have := H x i this.1 this.2
      omega
    rw [tr_step H, e]
    exact List.nodup_cons.2 ⟨List.not_mem_nil, List.nodup_nil⟩
  | succ d ih =>
    intro i hi
    rw [tr_step H, List.nodup_cons]
    refine ⟨fun h => ?_, row_nodup H fun x hx => ?_⟩
    · obtain ⟨y, hy, hi⟩ := List.mem_flatMap.1 h
      have hy := mem_kids.1 (mem_stab.1 hy)
      have := H y i hy.1 hy.2
      have := ((mem_tr H).1 hi).le H
      omega
    · have hx := mem_kids.1 hx
      have := H x i hx.1 hx.2
      exact ih x (by omega)
theorem whole_nodup : (whole n ab key).Nodup := row_nodup H fun x _ => tr_nodup H n x (by omega)
theorem mem_whole {x : Nat} : x ∈ whole n ab key ↔ x < n := by
  refine ⟨fun h => ?_, whole_mem H x⟩
  obtain ⟨y, hy, hx⟩ := List.mem_flatMap.1 h
  exact ((mem_tr H).1 hx).lt (mem_kids.1 (mem_stab.1 hy)).1
theorem whole_perm : (whole n ab key).Perm (List.range n) :=
  (List.perm_ext_iff_of_nodup (whole_nodup H) List.nodup_range).2 fun x => by rw [mem_whole H, List.mem_range]
theorem whole_length : (whole n ab key).length = n := by rw [(whole_perm H).length_eq, List.length_range]
/-- how many stand beneath -/
def cnt (n : Nat) (ab : Nat → Option Nat) (key : Nat → Int) (i : Nat) : Nat := (tr n ab key i).length
omit H in
theorem flat_len {l : List Nat} {g : Nat → List Nat} : (l.flatMap g).length = (l.map (fun x => (g x).length)).sum := by
  induction l with
  | nil => rfl
  | cons x l ih => rw [List.flatMap_cons, List.length_append, ih]; simp
theorem cntT_step (i : Nat) : cnt n ab key i = 1 + ((kids n ab (some i)).map (cnt n ab key)).sum := by
  unfold cnt
  rw [tr_step H, List.length_cons, flat_len, Nat.add_comm, ((stab_perm key _).map _).sum_nat]
/-- where one stands, and how far what is beneath it goes -/
theorem inside {P Q P' Q' : List Nat} {i x : Nat} (hx : x < n) (ha : ab x = some i) (e : whole n ab key = P ++ i :: Q) (e' : whole n ab key = P' ++ x :: Q') :
    P.length < P'.length ∧ P'.length + cnt n ab key x ≤ P.length + cnt n ab key i := by
  have hi : i < n := by have := H x i hx ha; omega
  have uniq : ∀ {A B C D : List Nat} {z : Nat}, whole n ab key = A ++ z :: B → whole n ab key = C ++ z :: D → A.length = C.length := fun {A B C D z} h h2 => by
    have nd := whole_nodup H (key := key)
    have l1 : (whole n ab key)[A.length]? = some z := by rw [h]; exact get_mid rfl
    have l2 : (whole n ab key)[C.length]? = some z := by rw [h2]; exact get_mid rfl
    obtain ⟨b1, v1⟩ := List.getElem?_eq_some_iff.1 l1
    obtain ⟨b2, v2⟩ := List.getElem?_eq_some_iff.1 l2
    exact (List.getElem_inj nd).1 (v1.trans v2.symm)
  obtain ⟨A, B, eA⟩ := whole_infix H (key := key) i hi
  obtain ⟨C, D, eC⟩ := tr_under H (key := key) hx ha
  have h1 : whole n ab key = A ++ i :: (C ++ tr n ab key x ++ D ++ B) := by rw [eA, eC]; simp
  have lA := uniq e h1
  have h2 : whole n ab key = (A ++ i :: C) ++ x :: ((stab key (kids n ab (some x))).flatMap (tr n ab key) ++ D ++ B) := by
    rw [eA, eC, tr_step H x]; simp
  have lC := uniq e' h2
  rw [lA, lC]
  unfold cnt
  rw [eC]
  simp only [List.length_append, List.length_cons]
  omega
omit H in
theorem stab_same {l : List Nat} (h : ∀ x ∈ l, ∀ y ∈ l, key x = key y) : stab key l = l := by
  induction l using snoc_ind with
  | h0 => rfl
  | h1 l x ih =>
    have e := ih fun y hy z hz => h y (List.mem_append_left _ hy) z (List.mem_append_left _ hz)
    rw [stab_snoc, e]
    have := mg_one key (s1 := l) (s2 := []) (x := x) (fun y hy => Int.le_of_eq (h y (List.mem_append_left _ hy) x (by simp))) (fun y hy => by cases hy)
    rwa [List.append_nil] at this
/-- as Lay tells boxes -/
def LayOK (n : Nat) (ab : Nat → Option Nat) : Prop := ∀ j k, j < n → ab j = some k → 0 < j ∧ Up n ab k (j - 1)
omit H in
theorem Up.between (L : LayOK n ab) {i x : Nat} (h : Up n ab i x) : ∀ y, i ≤ y → y ≤ x → Up n ab i y := by
  have : ∀ d x, Up n ab i (x + d) → i ≤ x → Up n ab i x := fun d => by
    induction d with
    | zero => exact fun _ h _ => h
    | succ d ih =>
      intro x h hx
      refine ih x ?_ hx
      generalize e : x + (d + 1) = z at h
      cases h with
      | self => omega
      | @step _ k hz ha hk =>
        have := (L _ _ hz ha).2
        have e2 : z - 1 = x + d := by omega
        exact hk.trans (e2 ▸ this)
  intro y hy hx
  exact this (x - y) y (by rw [Nat.add_sub_cancel' hx]; exact h) hy
omit H in
theorem flat_sorted {l : List Nat} {g : Nat → List Nat} (h : l.Pairwise (· < ·)) (h1 : ∀ x ∈ l, (g x).Pairwise (· < ·)) (h2 : ∀ x ∈ l, ∀ y ∈ l, x < y → ∀ a ∈ g x, ∀ b ∈ g y, a < b) : (l.flatMap g).Pairwise (· < ·) := by
  induction l with
  | nil => exact .nil
  | cons x l ih =>
    rw [List.flatMap_cons, List.pairwise_append]
    have hn := List.pairwise_cons.1 h
    refine ⟨h1 x (List.mem_cons_self ..), ih hn.2 (fun y hy => h1 y (List.mem_cons_of_mem _ hy)) (fun y hy z hz => h2 y (List.mem_cons_of_mem _ hy) z (List.mem_cons_of_mem _ hz)), ?_⟩
    intro a ha b hb
    obtain ⟨y, hy, hby⟩ := List.mem_flatMap.1 hb
    exact h2 x (List.mem_cons_self ..) y (List.mem_cons_of_mem _ hy) (hn.1 y hy) a ha b hby
omit H in
theorem kids_sorted (p : Option Nat) : (kids n ab p).Pairwise (· < ·) := List.pairwise_lt_range.filter _
theorem row_sorted (L : LayOK n ab) {p : Option Nat} (hk : ∀ x y : Nat, x < n → y < n → key x = key y) (h : ∀ x ∈ kids n ab p, (tr n ab key x).Pairwise (· < ·)) : ((stab key (kids n ab p)).flatMap (tr n ab key)).Pairwise (· < ·) := by
  rw [stab_same fun x hx y hy => hk x y (mem_kids.1 hx).1 (mem_kids.1 hy).1]
  refine flat_sorted (kids_sorted p) h fun x hx y hy hxy a ha b hb => ?_
  have hx := mem_kids.1 hx
  have hy := mem_kids.1 hy
  have ua := (mem_tr H).1 ha
  have ub := (mem_tr H).1 hb
  have lb := ub.le H
  rcases Nat.lt_or_ge a y with h | h
  · omega
  · have := ua.between L y (by omega) h
    have := sibs H hx.1 hy.1 hx.2 hy.2 this .self
    omega
theorem tr_sorted (L : LayOK n ab) (hk : ∀ x y : Nat, x < n → y < n → key x = key y) (d : Nat) : ∀ i, n ≤ i + d → (tr n ab key i).Pairwise (· < ·) := by
  induction d with
  | zero =>
    intro i hi
    have e : kids n ab (some i) = [] := List.eq_nil_iff_forall_not_mem.2 fun x hx => by
      have := mem_kids.1 hx
      have := H x i this.1 this.2
      omega
    rw [tr_step H, e]
    exact List.pairwise_singleton ..
  | succ d ih =>
    intro i hi
    rw [tr_step H, List.pairwise_cons]
    refine ⟨fun x h => ?_, row_sorted H L hk fun x hx => ?_⟩
    · obtain ⟨y, hy, hi⟩ := List.mem_flatMap.1 h
      have hy := mem_kids.1 (mem_stab.1 hy)
      have := H y i hy.1 hy.2
      have := ((mem_tr H).1 hi).le H
      omega
    · have hx := mem_kids.1 hx
      have := H x i hx.1 hx.2
      exact ih x (by omega)
theorem whole_range (L : LayOK n ab) (hk : ∀ x y : Nat, x < n → y < n → key x = key y) : whole n ab key = List.range n :=
  (whole_perm H).eq_of_pairwise (le := (· < ·)) (fun a b _ _ h1 h2 => by omega) (row_sorted H L hk fun x _ => tr_sorted H L hk n x (by omega)) List.pairwise_lt_range
end
end Go.Proofs.Ytedkbjimofiphaa
