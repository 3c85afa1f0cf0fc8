/- The evaluator of closed calls, part EvA. -/
import Derived.Calls
import Derived.Orders
import Derived.Laws.IdiomCopy
import Derived.Laws.Sem
import Derived.Laws.Cells
import Derived.Laws.Append
import Derived.Laws.Tables
import Derived.Laws.Build
import Derived.Laws.BytesString
import Derived.Laws.StructEq
set_option linter.unusedSimpArgs false
set_option linter.unusedVariables false
namespace Go.Proofs.YtjkifbkehochoaaGreatDoor.Ev

/-- a node of sixteen -/
structure N16 (α : Type) where
  a0 : α
  a1 : α
  a2 : α
  a3 : α
  a4 : α
  a5 : α
  a6 : α
  a7 : α
  a8 : α
  a9 : α
  a10 : α
  a11 : α
  a12 : α
  a13 : α
  a14 : α
  a15 : α
/-- reading and writing one of the sixteen: closed terms, so that the kernel reckons each once -/
structure Sel (α : Type) where
  get : N16 α → α
  set : α → N16 α → N16 α
noncomputable def mkSel {α : Type} (n : Nat) : Sel α := match n with
  | 0 => ⟨N16.a0, fun x t => N16.casesOn (motive := fun _ => N16 α) t fun a0 a1 a2 a3 a4 a5 a6 a7 a8 a9 a10 a11 a12 a13 a14 a15 => ⟨x, a1, a2, a3, a4, a5, a6, a7, a8, a9, a10, a11, a12, a13, a14, a15⟩⟩
  | 1 => ⟨N16.a1, fun x t => N16.casesOn (motive := fun _ => N16 α) t fun a0 a1 a2 a3 a4 a5 a6 a7 a8 a9 a10 a11 a12 a13 a14 a15 => ⟨a0, x, a2, a3, a4, a5, a6, a7, a8, a9, a10, a11, a12, a13, a14, a15⟩⟩
  | 2 => ⟨N16.a2, fun x t => N16.casesOn (motive := fun _ => N16 α) t fun a0 a1 a2 a3 a4 a5 a6 a7 a8 a9 a10 a11 a12 a13 a14 a15 => ⟨a0, a1, x, a3, a4, a5, a6, a7, a8, a9, a10, a11, a12, a13, a14, a15⟩⟩
  | 3 => ⟨N16.a3, fun x t => N16.casesOn (motive := fun _ => N16 α) t fun a0 a1 a2 a3 a4 a5 a6 a7 a8 a9 a10 a11 a12 a13 a14 a15 => ⟨a0, a1, a2, x, a4, a5, a6, a7, a8, a9, a10, a11, a12, a13, a14, a15⟩⟩
  | 4 => ⟨N16.a4, fun x t => N16.casesOn (motive := fun _ => N16 α) t fun a0 a1 a2 a3 a4 a5 a6 a7 a8 a9 a10 a11 a12 a13 a14 a15 => ⟨a0, a1, a2, a3, x, a5, a6, a7, a8, a9, a10, a11, a12, a13, a14, a15⟩⟩
  | 5 => ⟨N16.a5, fun x t => N16.casesOn (motive := fun _ => N16 α) t fun a0 a1 a2 a3 a4 a5 a6 a7 a8 a9 a10 a11 a12 a13 a14 a15 => ⟨a0, a1, a2, a3, a4, x, a6, a7, a8, a9, a10, a11, a12, a13, a14, a15⟩⟩
  | 6 => ⟨N16.a6, fun x t => N16.casesOn (motive := fun _ => N16 α) t fun a0 a1 a2 a3 a4 a5 a6 a7 a8 a9 a10 a11 a12 a13 a14 a15 => ⟨a0, a1, a2, a3, a4, a5, x, a7, a8, a9, a10, a11, a12, a13, a14, a15⟩⟩
  | 7 => ⟨N16.a7, fun x t => N16.casesOn (motive := fun _ => N16 α) t fun a0 a1 a2 a3 a4 a5 a6 a7 a8 a9 a10 a11 a12 a13 a14 a15 => ⟨a0, a1, a2, a3, a4, a5, a6, x, a8, a9, a10, a11, a12, a13, a14, a15⟩⟩
  | 8 => ⟨N16.a8, fun x t => N16.casesOn (motive := fun _ => N16 α) t fun a0 a1 a2 a3 a4 a5 a6 a7 a8 a9 a10 a11 a12 a13 a14 a15 => ⟨a0, a1, a2, a3, a4, a5, a6, a7, x, a9, a10, a11, a12, a13, a14, a15⟩⟩
  | 9 => ⟨N16.a9, fun x t => N16.casesOn (motive := fun _ => N16 α) t fun a0 a1 a2 a3 a4 a5 a6 a7 a8 a9 a10 a11 a12 a13 a14 a15 => ⟨a0, a1, a2, a3, a4, a5, a6, a7, a8, x, a10, a11, a12, a13, a14, a15⟩⟩
  | 10 => ⟨N16.a10, fun x t => N16.casesOn (motive := fun _ => N16 α) t fun a0 a1 a2 a3 a4 a5 a6 a7 a8 a9 a10 a11 a12 a13 a14 a15 => ⟨a0, a1, a2, a3, a4, a5, a6, a7, a8, a9, x, a11, a12, a13, a14, a15⟩⟩
  | 11 => ⟨N16.a11, fun x t => N16.casesOn (motive := fun _ => N16 α) t fun a0 a1 a2 a3 a4 a5 a6 a7 a8 a9 a10 a11 a12 a13 a14 a15 => ⟨a0, a1, a2, a3, a4, a5, a6, a7, a8, a9, a10, x, a12, a13, a14, a15⟩⟩
  | 12 => ⟨N16.a12, fun x t => N16.casesOn (motive := fun _ => N16 α) t fun a0 a1 a2 a3 a4 a5 a6 a7 a8 a9 a10 a11 a12 a13 a14 a15 => ⟨a0, a1, a2, a3, a4, a5, a6, a7, a8, a9, a10, a11, x, a13, a14, a15⟩⟩
  | 13 => ⟨N16.a13, fun x t => N16.casesOn (motive := fun _ => N16 α) t fun a0 a1 a2 a3 a4 a5 a6 a7 a8 a9 a10 a11 a12 a13 a14 a15 => ⟨a0, a1, a2, a3, a4, a5, a6, a7, a8, a9, a10, a11, a12, x, a14, a15⟩⟩
  | 14 => ⟨N16.a14, fun x t => N16.casesOn (motive := fun _ => N16 α) t fun a0 a1 a2 a3 a4 a5 a6 a7 a8 a9 a10 a11 a12 a13 a14 a15 => ⟨a0, a1, a2, a3, a4, a5, a6, a7, a8, a9, a10, a11, a12, a13, x, a15⟩⟩
  | _ => ⟨N16.a15, fun x t => N16.casesOn (motive := fun _ => N16 α) t fun a0 a1 a2 a3 a4 a5 a6 a7 a8 a9 a10 a11 a12 a13 a14 a15 => ⟨a0, a1, a2, a3, a4, a5, a6, a7, a8, a9, a10, a11, a12, a13, a14, x⟩⟩
theorem sel_same {α : Type} (n : Nat) (h : n < 16) (x : α) (t : N16 α) : (mkSel n).get ((mkSel n).set x t) = x := by
  have hn : n = 0 ∨ n = 1 ∨ n = 2 ∨ n = 3 ∨ n = 4 ∨ n = 5 ∨ n = 6 ∨ n = 7 ∨ n = 8 ∨ n = 9 ∨ n = 10 ∨ n = 11 ∨ n = 12 ∨ n = 13 ∨ n = 14 ∨ n = 15 := by omega
  cases t
  rcases hn with rfl|rfl|rfl|rfl|rfl|rfl|rfl|rfl|rfl|rfl|rfl|rfl|rfl|rfl|rfl|rfl <;> rfl
theorem sel_ne {α : Type} (n m : Nat) (h : n < 16) (k : m < 16) (hne : n ≠ m) (x : α) (t : N16 α) : (mkSel m).get ((mkSel n).set x t) = (mkSel m).get t := by
  have hn : n = 0 ∨ n = 1 ∨ n = 2 ∨ n = 3 ∨ n = 4 ∨ n = 5 ∨ n = 6 ∨ n = 7 ∨ n = 8 ∨ n = 9 ∨ n = 10 ∨ n = 11 ∨ n = 12 ∨ n = 13 ∨ n = 14 ∨ n = 15 := by omega
  have hm : m = 0 ∨ m = 1 ∨ m = 2 ∨ m = 3 ∨ m = 4 ∨ m = 5 ∨ m = 6 ∨ m = 7 ∨ m = 8 ∨ m = 9 ∨ m = 10 ∨ m = 11 ∨ m = 12 ∨ m = 13 ∨ m = 14 ∨ m = 15 := by omega
  cases t
  rcases hn with rfl|rfl|rfl|rfl|rfl|rfl|rfl|rfl|rfl|rfl|rfl|rfl|rfl|rfl|rfl|rfl <;> rcases hm with rfl|rfl|rfl|rfl|rfl|rfl|rfl|rfl|rfl|rfl|rfl|rfl|rfl|rfl|rfl|rfl <;> first | rfl | exact absurd rfl hne
noncomputable def full {α : Type} (x : α) : N16 α := ⟨x, x, x, x, x, x, x, x, x, x, x, x, x, x, x, x⟩
theorem full_get {α : Type} (n : Nat) (x : α) : (mkSel n).get (full x) = x := by
  unfold mkSel
  split <;> rfl
/-- slots: 4096 -/
abbrev TT := N16 (N16 (N16 (Option Value)))
noncomputable def TT.nil : TT := full (full (full none))
noncomputable def TT.get (t : TT) (n : Nat) : Option Value := (mkSel (Nat.mod n 16)).get ((mkSel (Nat.mod (Nat.div n 16) 16)).get ((mkSel (Nat.div n 256)).get t))
noncomputable def TT.set (t : TT) (n : Nat) (v : Value) : TT :=
  (mkSel (Nat.div n 256)).set ((mkSel (Nat.mod (Nat.div n 16) 16)).set ((mkSel (Nat.mod n 16)).set (some v) ((mkSel (Nat.mod (Nat.div n 16) 16)).get ((mkSel (Nat.div n 256)).get t))) ((mkSel (Nat.div n 256)).get t)) t
theorem TT.get_same (t : TT) (n : Nat) (v : Value) (h : n < 4096) : (t.set n v).get n = some v := by
  have h1 : n / 256 < 16 := by omega
  have h2 : n / 16 % 16 < 16 := by omega
  have h3 : n % 16 < 16 := by omega
  show (mkSel (n % 16)).get ((mkSel (n / 16 % 16)).get ((mkSel (n / 256)).get ((mkSel (n / 256)).set ((mkSel (n / 16 % 16)).set ((mkSel (n % 16)).set (some v) _) _) t))) = some v
  rw [sel_same _ h1, sel_same _ h2, sel_same _ h3]
theorem TT.get_ne (t : TT) (n m : Nat) (v : Value) (h : n < 4096) (k : m < 4096) (hne : n ≠ m) : (t.set n v).get m = t.get m := by
  have h1 : n / 256 < 16 := by omega
  have h2 : n / 16 % 16 < 16 := by omega
  have h3 : n % 16 < 16 := by omega
  have k1 : m / 256 < 16 := by omega
  have k2 : m / 16 % 16 < 16 := by omega
  have k3 : m % 16 < 16 := by omega
  show (mkSel (m % 16)).get ((mkSel (m / 16 % 16)).get ((mkSel (m / 256)).get ((mkSel (n / 256)).set ((mkSel (n / 16 % 16)).set ((mkSel (n % 16)).set (some v)
    ((mkSel (n / 16 % 16)).get ((mkSel (n / 256)).get t))) ((mkSel (n / 256)).get t)) t))) =
    (mkSel (m % 16)).get ((mkSel (m / 16 % 16)).get ((mkSel (m / 256)).get t))
  by_cases e1 : n / 256 = m / 256
  · rw [← e1, sel_same _ h1]
    by_cases e2 : n / 16 % 16 = m / 16 % 16
    · rw [← e2, sel_same _ h2, sel_ne _ _ h3 k3 (by omega)]
    · rw [sel_ne _ _ h2 k2 e2]
  · rw [sel_ne _ _ h1 k1 e1]

/-- a block: cells that may be written; cells that are only read; another object; one that is no longer to be looked at -/
inductive Blk where
  | cells (cs : List Value) (elem : TypeId) (ex : Option Nat) (fz : Option Nat)
  | ro (cs : List Value)
  | obj (o : Obj)
  | dead
abbrev HH := N16 (N16 (N16 (N16 (Option Blk))))
structure Hp where
  n : Nat
  m : HH
noncomputable def HH.nil : HH := full (full (full (full none)))
noncomputable def HH.get (t : HH) (n : Nat) : Option Blk := (mkSel (Nat.mod n 16)).get ((mkSel (Nat.mod (Nat.div n 16) 16)).get ((mkSel (Nat.mod (Nat.div n 256) 16)).get ((mkSel (Nat.div n 4096)).get t)))
noncomputable def HH.set (t : HH) (n : Nat) (v : Blk) : HH :=
  (mkSel (Nat.div n 4096)).set ((mkSel (Nat.mod (Nat.div n 256) 16)).set ((mkSel (Nat.mod (Nat.div n 16) 16)).set ((mkSel (Nat.mod n 16)).set (some v)
    ((mkSel (Nat.mod (Nat.div n 16) 16)).get ((mkSel (Nat.mod (Nat.div n 256) 16)).get ((mkSel (Nat.div n 4096)).get t))))
    ((mkSel (Nat.mod (Nat.div n 256) 16)).get ((mkSel (Nat.div n 4096)).get t))) ((mkSel (Nat.div n 4096)).get t)) t
theorem HH.get_same (t : HH) (n : Nat) (v : Blk) (h : n < 65536) : (t.set n v).get n = some v := by
  have h1 : n / 4096 < 16 := by omega
  have h2 : n / 256 % 16 < 16 := by omega
  have h3 : n / 16 % 16 < 16 := by omega
  have h4 : n % 16 < 16 := by omega
  show (mkSel (n % 16)).get ((mkSel (n / 16 % 16)).get ((mkSel (n / 256 % 16)).get ((mkSel (n / 4096)).get ((mkSel (n / 4096)).set ((mkSel (n / 256 % 16)).set ((mkSel (n / 16 % 16)).set ((mkSel (n % 16)).set (some v) _) _) _) t)))) = some v
  rw [sel_same _ h1, sel_same _ h2, sel_same _ h3, sel_same _ h4]
theorem HH.get_ne (t : HH) (n m : Nat) (v : Blk) (h : n < 65536) (k : m < 65536) (hne : n ≠ m) : (t.set n v).get m = t.get m := by
  have h1 : n / 4096 < 16 := by omega
  have h2 : n / 256 % 16 < 16 := by omega
  have h3 : n / 16 % 16 < 16 := by omega
  have h4 : n % 16 < 16 := by omega
  have k1 : m / 4096 < 16 := by omega
  have k2 : m / 256 % 16 < 16 := by omega
  have k3 : m / 16 % 16 < 16 := by omega
  have k4 : m % 16 < 16 := by omega
  show (mkSel (m % 16)).get ((mkSel (m / 16 % 16)).get ((mkSel (m / 256 % 16)).get ((mkSel (m / 4096)).get ((mkSel (n / 4096)).set ((mkSel (n / 256 % 16)).set ((mkSel (n / 16 % 16)).set ((mkSel (n % 16)).set (some v)
    ((mkSel (n / 16 % 16)).get ((mkSel (n / 256 % 16)).get ((mkSel (n / 4096)).get t)))) ((mkSel (n / 256 % 16)).get ((mkSel (n / 4096)).get t))) ((mkSel (n / 4096)).get t)) t)))) =
    (mkSel (m % 16)).get ((mkSel (m / 16 % 16)).get ((mkSel (m / 256 % 16)).get ((mkSel (m / 4096)).get t)))
  by_cases e1 : n / 4096 = m / 4096
  · rw [← e1, sel_same _ h1]
    by_cases e2 : n / 256 % 16 = m / 256 % 16
    · rw [← e2, sel_same _ h2]
      by_cases e3 : n / 16 % 16 = m / 16 % 16
      · rw [← e3, sel_same _ h3, sel_ne _ _ h4 k4 (by omega)]
      · rw [sel_ne _ _ h3 k3 e3]
    · rw [sel_ne _ _ h2 k2 e2]
  · rw [sel_ne _ _ h1 k1 e1]
noncomputable def Hp.nil (n : Nat) : Hp := ⟨n, HH.nil⟩
noncomputable def Hp.get (h : Hp) (i : Nat) : Option Blk := match Nat.ble i 65535 with
  | true => h.m.get i
  | false => none
noncomputable def Hp.put (h : Hp) (i : Nat) (b : Blk) : Hp := ⟨h.n, h.m.set i b⟩
noncomputable def Hp.new (h : Hp) (b : Blk) : Hp := ⟨Nat.add h.n 1, h.m.set h.n b⟩
theorem Hp.nil_get (n i : Nat) : (Hp.nil n).get i = none := by
  unfold Hp.get
  split
  · show (mkSel _).get ((mkSel _).get ((mkSel _).get ((mkSel _).get (full (full (full (full none))))))) = none
    rw [full_get, full_get, full_get, full_get]
  · rfl
theorem Hp.get_put (h : Hp) {i j : Nat} (b : Blk) (hi : i < 65536) : (h.put i b).get j = if j = i then some b else h.get j := by
  unfold Hp.get Hp.put
  by_cases hj : j < 65536
  · have : Nat.ble j 65535 = true := Nat.ble_eq_true_of_le (by omega)
    simp only [this]
    by_cases e : j = i
    · subst e; rw [if_pos rfl]; exact HH.get_same h.m j b hi
    · rw [if_neg e]; exact HH.get_ne h.m i j b hi hj (fun x => e x.symm)
  · have : Nat.ble j 65535 = false := by
      cases hb : Nat.ble j 65535 with
      | false => rfl
      | true => exact absurd (Nat.le_of_ble_eq_true hb) (by omega)
    simp only [this]
    rw [if_neg (by omega)]
theorem Hp.get_new (h : Hp) {j : Nat} (b : Blk) (hi : h.n < 65536) : (h.new b).get j = if j = h.n then some b else h.get j := Hp.get_put h b hi

noncomputable def ob {α β : Type} (x : Option α) (f : α → Option β) : Option β := Option.rec (motive := fun _ => Option β) none f x
theorem ob_some {α β : Type} {x : Option α} {f : α → Option β} {b : β} (h : ob x f = some b) : ∃ a, x = some a ∧ f a = some b := by
  cases x with
  | none => cases h
  | some a => exact ⟨a, rfl, h⟩
noncomputable def nth {α : Type} (l : List α) : Nat → Option α :=
  List.rec (motive := fun _ => Nat → Option α) (fun _ => none) (fun x _ ih n => Nat.casesOn (motive := fun _ => Option α) n (some x) (fun m => ih m)) l
theorem nth_eq {α : Type} : ∀ (l : List α) (n : Nat), nth l n = l[n]?
  | [], n => by cases n <;> rfl
  | x :: l, 0 => rfl
  | x :: l, n + 1 => by
    have := nth_eq l n
    show nth l n = _
    rw [this]
    rfl
/-- vs in place of what stands from n on -/
noncomputable def over {α : Type} (l : List α) : Nat → List α → Option (List α) :=
  List.rec (motive := fun _ => Nat → List α → Option (List α))
    (fun n vs => List.casesOn (motive := fun _ => Option (List α)) vs (Nat.casesOn (motive := fun _ => Option (List α)) n (some []) (fun _ => none)) (fun _ _ => none))
    (fun x l ih n vs => Nat.casesOn (motive := fun _ => Option (List α)) n
      (List.casesOn (motive := fun _ => Option (List α)) vs (some (x :: l)) (fun v vs => Option.rec none (fun r => some (v :: r)) (ih 0 vs)))
      (fun m => Option.rec none (fun r => some (x :: r)) (ih m vs))) l
theorem orec {α β : Type} (x : Option α) (f : α → Option β) : (Option.rec none f x : Option β) = ob x f := by cases x <;> rfl
theorem over_nil0 {α : Type} : over ([] : List α) 0 [] = some [] := rfl
theorem over_nil1 {α : Type} (n : Nat) : over ([] : List α) (n + 1) [] = none := rfl
theorem over_nil2 {α : Type} (n : Nat) (v : α) (vs : List α) : over ([] : List α) n (v :: vs) = none := rfl
theorem over_cons0 {α : Type} (x : α) (l : List α) : over (x :: l) 0 [] = some (x :: l) := rfl
theorem over_cons1 {α : Type} (x v : α) (l vs : List α) : over (x :: l) 0 (v :: vs) = ob (over l 0 vs) fun r => some (v :: r) := orec _ _
theorem over_cons2 {α : Type} (x : α) (l vs : List α) (n : Nat) : over (x :: l) (n + 1) vs = ob (over l n vs) fun r => some (x :: r) := orec _ _
theorem over_spec {α : Type} : ∀ (l : List α) (n : Nat) (vs r : List α), over l n vs = some r → r.length = l.length ∧ n + vs.length ≤ l.length ∧ ∀ i, r[i]? = if n ≤ i ∧ i < n + vs.length then vs[i - n]? else l[i]?
  | [], 0, [], r, h => by rw [over_nil0] at h; cases h; simp
  | [], n, v :: vs, r, h => by rw [over_nil2] at h; cases h
  | [], n + 1, [], r, h => by rw [over_nil1] at h; cases h
  | x :: l, 0, [], r, h => by
    rw [over_cons0] at h; cases h
    exact ⟨rfl, by simp, fun i => by rw [if_neg]; simp⟩
  | x :: l, 0, v :: vs, r, h => by
    rw [over_cons1] at h
    obtain ⟨r', h1, h2⟩ := ob_some h
    cases h2
    obtain ⟨a, b, c⟩ := over_spec l 0 vs r' h1
    refine ⟨by simp [a], by simp; omega, fun i => ?_⟩
    cases i with
    | zero => simp
    | succ i =>
      have := c i
      simp only [List.getElem?_cons_succ, this]
      simp
  | x :: l, n + 1, vs, r, h => by
    rw [over_cons2] at h
    obtain ⟨r', h1, h2⟩ := ob_some h
    cases h2
    obtain ⟨a, b, c⟩ := over_spec l n vs r' h1
    refine ⟨by simp [a], by simp; omega, fun i => ?_⟩
    cases i with
    | zero => simp
    | succ i =>
      have := c i
      simp only [List.getElem?_cons_succ, this]
      by_cases hc : n ≤ i ∧ i < n + vs.length
      · rw [if_pos hc, if_pos (by omega)]; congr 1; omega
      · rw [if_neg hc, if_neg (by omega)]
noncomputable def mapO {α β : Type} (f : α → Option β) (l : List α) : Option (List β) :=
  List.rec (motive := fun _ => Option (List β)) (some []) (fun x _ ih => Option.rec none (fun y => Option.rec none (fun r => some (y :: r)) ih) (f x)) l
theorem mapO_nil {α β : Type} (f : α → Option β) : mapO f [] = some [] := rfl
theorem mapO_cons {α β : Type} (f : α → Option β) (x : α) (l : List α) : mapO f (x :: l) = ob (f x) fun y => ob (mapO f l) fun r => some (y :: r) := by
  show (Option.rec none (fun y => Option.rec none (fun r => some (y :: r)) (mapO f l)) (f x) : Option (List β)) = _
  rw [orec]
  rfl
theorem mapO_spec {α β : Type} {f : α → Option β} : ∀ {l : List α} {r : List β}, mapO f l = some r → r.length = l.length ∧ ∀ (i : Nat) (x : α), l[i]? = some x → ∃ y, r[i]? = some y ∧ f x = some y
  | [], r, h => by rw [mapO_nil] at h; cases h; simp
  | x :: l, r, h => by
    rw [mapO_cons] at h
    obtain ⟨y, h1, h⟩ := ob_some h
    obtain ⟨r', h2, h⟩ := ob_some h
    cases h
    obtain ⟨a, b⟩ := mapO_spec h2
    refine ⟨by simp [a], fun i z hz => ?_⟩
    cases i with
    | zero => simp at hz; subst hz; exact ⟨y, by simp, h1⟩
    | succ i => simp at hz; obtain ⟨u, hu, hf⟩ := b i z hz; exact ⟨u, by simpa using hu, hf⟩

noncomputable def plain : Nat → Value → Bool
  | _, .bool _ | _, .int _ _ | _, .float _ _ | _, .complex _ _ _ | _, .string _ | _, .nilFunc | _, .nilIface | _, .pointer none | _, .slice none _ _ | _, .map none | _, .chan none => true
  | n + 1, .iface _ v => plain n v
  | n + 1, .agg cs | n + 1, .tuple cs => cs.toList.all fun v => plain n v
  | n + 1, .func _ a b => (a.toList.all fun v => plain n v) && (b.toList.all fun v => plain n v)
  | _, _ => false

/-- plain, quickly -/
noncomputable def plainF (v : Value) : Bool := match v with
  | .bool _ | .int _ _ | .float _ _ | .string _ | .nilFunc | .nilIface => true
  | v => plain 20 v
theorem plainF_eq (v : Value) : plainF v = plain 20 v := by
  unfold plainF
  split <;> rfl
noncomputable def unk : Nat := 18446744073709551616
/-- names: the block of each, and how many elements an appended row has room for -/
structure Ren where
  f : Nat → Option Nat
  k : Nat → Nat
instance : CoeFun Ren (fun _ => Nat → Option Nat) := ⟨Ren.f⟩
def Ren.le (φ φ' : Ren) : Prop := ∀ i b, φ i = some b → φ' i = some b ∧ φ'.k i = φ.k i
def CR (q o n c c' : Nat) : Prop := (c = unk ∧ n ≤ c' ∧ (o = 0 → c' = q)) ∨ (c ≠ unk ∧ c' = c)
inductive VR (φ : Ren) : Value → Value → Prop
  | bool (b : Bool) : VR φ (.bool b) (.bool b)
  | int (k : IntKind) (n : Int) : VR φ (.int k n) (.int k n)
  | float (k : FloatKind) (b : Nat) : VR φ (.float k b) (.float k b)
  | complex (k : FloatKind) (a b : Nat) : VR φ (.complex k a b) (.complex k a b)
  | string (s : ByteArray) : VR φ (.string s) (.string s)
  | nilFunc : VR φ .nilFunc .nilFunc
  | nilIface : VR φ .nilIface .nilIface
  | ptr0 : VR φ (.pointer none) (.pointer none)
  | ptr {i o b : Nat} (h : φ i = some b) : VR φ (.pointer (some ⟨i, o, none⟩)) (.pointer (some ⟨b, o, none⟩))
  | sl0 (n c : Nat) : VR φ (.slice none n c) (.slice none n c)
  | sl {i o b n c c' : Nat} (h : φ i = some b) (hc : CR (φ.k i) o n c c') : VR φ (.slice (some ⟨i, o, none⟩) n c) (.slice (some ⟨b, o, none⟩) n c')
  | map0 : VR φ (.map none) (.map none)
  | map {i b : Nat} (h : φ i = some b) : VR φ (.map (some i)) (.map (some b))
  | chan0 : VR φ (.chan none) (.chan none)
  | yld (l : Nat) : VR φ (.chan (some 0)) (.func (.yield l) #[] #[])
  | iface (t : TypeId) {v v' : Value} (h : VR φ v v') : VR φ (.iface t v) (.iface t v')
  | agg {a b : List Value} (hl : a.length = b.length) (h : ∀ (i : Nat) (x y : Value), a[i]? = some x → b[i]? = some y → VR φ x y) : VR φ (.agg ⟨a⟩) (.agg ⟨b⟩)
  | tuple {a b : List Value} (hl : a.length = b.length) (h : ∀ (i : Nat) (x y : Value), a[i]? = some x → b[i]? = some y → VR φ x y) : VR φ (.tuple ⟨a⟩) (.tuple ⟨b⟩)
  | func (fn : Fn) {a b c d : List Value} (hl : a.length = b.length) (h : ∀ (i : Nat) (x y : Value), a[i]? = some x → b[i]? = some y → VR φ x y)
      (kl : c.length = d.length) (k : ∀ (i : Nat) (x y : Value), c[i]? = some x → d[i]? = some y → VR φ x y) : VR φ (.func fn ⟨a⟩ ⟨c⟩) (.func fn ⟨b⟩ ⟨d⟩)
def LR (φ : Ren) (a b : List Value) : Prop := a.length = b.length ∧ ∀ (i : Nat) (x y : Value), a[i]? = some x → b[i]? = some y → VR φ x y
theorem VR.mono {φ φ' : Ren} (hφ : φ.le φ') {v v' : Value} (h : VR φ v v') : VR φ' v v' := by
  induction h with
  | bool b => exact .bool b
  | int k n => exact .int k n
  | float k b => exact .float k b
  | complex k a b => exact .complex k a b
  | string s => exact .string s
  | nilFunc => exact .nilFunc
  | nilIface => exact .nilIface
  | ptr0 => exact .ptr0
  | ptr h => exact .ptr (hφ _ _ h).1
  | sl0 n c => exact .sl0 n c
  | sl h hc => exact .sl (hφ _ _ h).1 ((hφ _ _ h).2 ▸ hc)
  | map0 => exact .map0
  | map h => exact .map (hφ _ _ h).1
  | chan0 => exact .chan0
  | yld l => exact .yld l
  | iface t h ih => exact .iface t ih
  | agg hl h ih => exact .agg hl fun i x y hx hy => ih i x y hx hy
  | tuple hl h ih => exact .tuple hl fun i x y hx hy => ih i x y hx hy
  | func fn hl h kl k ih1 ih2 => exact .func fn hl (fun i x y hx hy => ih1 i x y hx hy) kl (fun i x y hx hy => ih2 i x y hx hy)
theorem LR.mono {φ φ' : Ren} (hφ : φ.le φ') {a b : List Value} (h : LR φ a b) : LR φ' a b := ⟨h.1, fun i x y hx hy => (h.2 i x y hx hy).mono hφ⟩
theorem LR.at {φ : Ren} {a b : List Value} (h : LR φ a b) {i : Nat} {x : Value} (hx : a[i]? = some x) : ∃ y, b[i]? = some y ∧ VR φ x y := by
  have hlt : i < b.length := by rw [← h.1]; exact (List.getElem?_eq_some_iff.1 hx).1
  exact ⟨b[i], List.getElem?_eq_getElem hlt, h.2 i x _ hx (List.getElem?_eq_getElem hlt)⟩
theorem LR.nil {φ : Ren} : LR φ [] [] := ⟨rfl, fun i x y hx => by simp at hx⟩
theorem LR.cons {φ : Ren} {x y : Value} {a b : List Value} (h : VR φ x y) (t : LR φ a b) : LR φ (x :: a) (y :: b) := by
  refine ⟨by simp [t.1], fun i u v hu hv => ?_⟩
  cases i with
  | zero => simp at hu hv; subst hu hv; exact h
  | succ i => simp at hu hv; exact t.2 i u v hu hv
theorem LR.uncons {φ : Ren} {x : Value} {a b : List Value} (h : LR φ (x :: a) b) : ∃ y b', b = y :: b' ∧ VR φ x y ∧ LR φ a b' := by
  cases b with
  | nil => have := h.1; simp at this
  | cons y b' => exact ⟨y, b', rfl, h.2 0 x y rfl rfl, by have := h.1; simpa using this, fun i u v hu hv => h.2 (i + 1) u v (by simpa using hu) (by simpa using hv)⟩
theorem LR.append {φ : Ren} {a b c d : List Value} (h : LR φ a b) (k : LR φ c d) : LR φ (a ++ c) (b ++ d) := by
  refine ⟨by simp [h.1, k.1], fun i x y hx hy => ?_⟩
  by_cases hi : i < a.length
  · rw [List.getElem?_append_left hi] at hx
    rw [List.getElem?_append_left (by have := h.1; omega)] at hy
    exact h.2 i x y hx hy
  · rw [List.getElem?_append_right (by omega)] at hx
    rw [List.getElem?_append_right (by have := h.1; omega), ← h.1] at hy
    exact k.2 _ x y hx hy
theorem LR.take {φ : Ren} {a b : List Value} (h : LR φ a b) (n : Nat) : LR φ (a.take n) (b.take n) := by
  refine ⟨by simp [h.1], fun i x y hx hy => ?_⟩
  rw [List.getElem?_take] at hx hy
  split at hx
  · rename_i hi; rw [if_pos hi] at hy; exact h.2 i x y hx hy
  · cases hx
theorem LR.drop {φ : Ren} {a b : List Value} (h : LR φ a b) (n : Nat) : LR φ (a.drop n) (b.drop n) := by
  refine ⟨by simp [h.1], fun i x y hx hy => ?_⟩
  rw [List.getElem?_drop] at hx hy
  exact h.2 _ x y hx hy
theorem LR.of_mapO {α : Type} {φ : Ren} {f : α → Option Value} {g : α → Value} (hf : ∀ x v, f x = some v → VR φ v (g x)) {l : List α} {r : List Value} (h : mapO f l = some r) : LR φ r (l.map g) := by
  obtain ⟨a, b⟩ := mapO_spec h
  refine ⟨by simp [a], fun i x y hx hy => ?_⟩
  rw [List.getElem?_map] at hy
  cases hz : l[i]? with
  | none => rw [hz] at hy; cases hy
  | some z =>
    rw [hz] at hy
    cases hy
    obtain ⟨u, hu, hfu⟩ := b i z hz
    rw [hx] at hu
    cases hu
    exact hf z x hfu
theorem VR.ofAgg {φ : Ren} {a b : List Value} (h : LR φ a b) : VR φ (.agg ⟨a⟩) (.agg ⟨b⟩) := .agg h.1 h.2
theorem VR.ofTuple {φ : Ren} {a b : List Value} (h : LR φ a b) : VR φ (.tuple ⟨a⟩) (.tuple ⟨b⟩) := .tuple h.1 h.2
theorem all_same {φ : Ren} {n : Nat} (ih : ∀ (v v' : Value), plain n v = true → VR φ v v' → v = v') {a b : List Value} (hp : (a.all fun v => plain n v) = true) (h : LR φ a b) : a = b := by
  induction a generalizing b with
  | nil => cases b with
    | nil => rfl
    | cons y b => have := h.1; simp at this
  | cons x a iha =>
    obtain ⟨y, b', rfl, h1, h2⟩ := h.uncons
    simp at hp
    rw [ih x y hp.1 h1, iha (by simpa using hp.2) h2]
theorem VR.same {φ : Ren} : ∀ (n : Nat) (v v' : Value), plain n v = true → VR φ v v' → v = v' := by
  intro n
  induction n with
  | zero => intro v v' hp h; cases h <;> first | rfl | (simp [plain] at hp)
  | succ n ih =>
    intro v v' hp h
    cases h with
    | iface t h => rw [ih _ _ (by simpa [plain] using hp) h]
    | agg hl h => rw [all_same ih (by simpa [plain] using hp) ⟨hl, h⟩]
    | tuple hl h => rw [all_same ih (by simpa [plain] using hp) ⟨hl, h⟩]
    | func fn hl h kl k =>
      simp only [plain, Bool.and_eq_true] at hp
      rw [all_same ih hp.1 ⟨hl, h⟩, all_same ih hp.2 ⟨kl, k⟩]
    | _ => first | rfl | (simp [plain] at hp)
theorem VR.self {φ : Ren} : ∀ (n : Nat) (v : Value), plain n v = true → VR φ v v := by
  have key : ∀ {n : Nat}, (∀ v, plain n v = true → VR φ v v) → ∀ {a : List Value}, (a.all fun v => plain n v) = true → LR φ a a := by
    intro n ih a hp
    refine ⟨rfl, fun i x y hx hy => ?_⟩
    rw [hx] at hy
    cases hy
    exact ih x (List.all_eq_true.1 hp x (List.mem_of_getElem? hx))
  intro n
  induction n with
  | zero =>
    intro v hp
    unfold plain at hp
    split at hp <;> first | (constructor; done) | (cases hp; done) | (rename_i heq; cases heq)
  | succ n ih =>
    intro v hp
    unfold plain at hp
    split at hp <;> first | (cases hp; done) | (constructor; done) | (rename_i heq; cases heq)
    · exact .iface _ (ih _ hp)
    · exact VR.ofAgg (key ih hp)
    · exact VR.ofTuple (key ih hp)
    · simp only [Bool.and_eq_true] at hp
      exact .func _ rfl (key ih hp.1).2 rfl (key ih hp.2).2
theorem Ren.le_refl (φ : Ren) : φ.le φ := fun _ _ h => ⟨h, rfl⟩
theorem Ren.le_trans {φ φ' φ'' : Ren} (h : φ.le φ') (k : φ'.le φ'') : φ.le φ'' := fun i b hi => ⟨(k i b (h i b hi).1).1, (k i b (h i b hi).1).2.trans (h i b hi).2⟩
end Go.Proofs.YtjkifbkehochoaaGreatDoor.Ev
namespace Go.Proofs.YtjkifbkehochoaaGreatDoor.Ev

def Blk.live : Option Blk → Prop
  | some (.cells _ _ _ _) | some (.obj _) => True
  | _ => False
def Blk.there : Option Blk → Prop
  | some .dead | none => False
  | _ => True
theorem Blk.live_there {b : Option Blk} (h : Blk.live b) : Blk.there b := by
  unfold Blk.live at h
  split at h <;> trivial
def FZ : Option Nat → Nat × Nat → Nat → Prop
  | none, f, _ => f = (0, 0)
  | some k, f, n => ∀ i, k ≤ i → i < n → ¬ (f.1 ≤ i ∧ i < f.2)
def ER (φ : Ren) (a b : MapEntry) : Prop := VR φ a.key b.key ∧ VR φ a.val b.val ∧ a.born = b.born
def OR (φ : Ren) : Obj → Obj → Prop
  | .map es c, .map es' c' => c = c' ∧ es.size = es'.size ∧ ∀ (i : Nat) (x y : MapEntry), es[i]? = some x → es'[i]? = some y → ER φ x y
  | .stringIter s p, .stringIter s' p' => s = s' ∧ p = p'
  | .mapIter none _ _ _, .mapIter none _ _ _ => True
  | .deferred (some []), .deferred (some []) => True
  | .deferred none, .deferred none => True
  | .loop r, .loop r' => r.state = r'.state ∧ r.pending = none ∧ r'.pending = none
  | _, _ => False
def RowR (φ : Ren) (cs : List Value) (c : Array Value) : Prop := ∀ (i : Nat) (x : Value), cs[i]? = some x → ∃ y, c[i]? = some y ∧ VR φ x y
def EX (q : Nat) : Option Nat → Nat → Nat → Prop
  | none, m, n => n = m
  | some s, _, n => n = q * s
def BR (φ : Ren) (i : Nat) : Option Blk → Option Obj → Prop
  | some (.cells cs e ex fz), o => ∃ c f, o = some (.cells c e f) ∧ EX (φ.k i) ex cs.length c.size ∧ RowR φ cs c ∧ FZ fz f c.size
  | some (.ro cs), o => ∃ c e f, o = some (.cells c e f) ∧ ∀ (i : Nat) (x : Value), cs[i]? = some x → c[i]? = some x
  | some (.obj a), o => ∃ b, o = some b ∧ OR φ a b
  | some .dead, _ | none, _ => True
theorem RowR.mono {φ φ' : Ren} (hφ : φ.le φ') {cs : List Value} {c : Array Value} (h : RowR φ cs c) : RowR φ' cs c :=
  fun i x hx => let ⟨y, hy, hr⟩ := h i x hx; ⟨y, hy, hr.mono hφ⟩
theorem OR.mono {φ φ' : Ren} (hφ : φ.le φ') {a b : Obj} (h : OR φ a b) : OR φ' a b := by
  unfold OR at h ⊢
  split at h <;> first | exact h | exact ⟨h.1, h.2.1, fun i x y hx hy => let ⟨u, v, z⟩ := h.2.2 i x y hx hy; ⟨u.mono hφ, v.mono hφ, z⟩⟩ | skip
theorem BR.mono {φ φ' : Ren} (hφ : φ.le φ') {i : Nat} (hk : φ'.k i = φ.k i) {a : Option Blk} {o : Option Obj} (h : BR φ i a o) : BR φ' i a o := by
  unfold BR at h ⊢
  split at h
  · obtain ⟨c, f, h1, h2, h3, h4⟩ := h; exact ⟨c, f, h1, hk ▸ h2, h3.mono hφ, h4⟩
  · obtain ⟨c, e, f, h1, h3⟩ := h; exact ⟨c, e, f, h1, h3⟩
  · obtain ⟨b, h1, h3⟩ := h; exact ⟨b, h1, h3.mono hφ⟩
  · trivial
  · trivial
/-- the rest of the world is as it was -/
structure Same (w w' : World) : Prop where
  os : w'.os = w.os
  tape : w'.tape = w.tape
  output : w'.output = w.output
theorem Same.refl (w : World) : Same w w := ⟨rfl, rfl, rfl⟩
theorem Same.trans {w w' w'' : World} (h : Same w w') (k : Same w' w'') : Same w w'' := ⟨k.os.trans h.os, k.tape.trans h.tape, k.output.trans h.output⟩
theorem Same.setCells (b : Nat) : ∀ (vs : List Value) (o : Nat) (w : World), Same w (w.setCells b o vs)
  | [], _, w => .refl w
  | v :: vs, o, w => by
    have h := Same.setCells b vs (o + 1) (w.setCell ⟨b, o, none⟩ v)
    exact ⟨h.os, h.tape, h.output⟩
structure HR (φ : Ren) (C : Nat → Option Blk) (n : Nat) (w : World) : Prop where
  bnd : n ≤ 65536
  ro : ∀ i cs, C i = some (.ro cs) → i < n ∧ φ i = some i
  lt : ∀ i b, φ i = some b → i < n ∧ b < w.heap.size
  inj : ∀ i j b, φ i = some b → φ j = some b → Blk.live (C i) → Blk.there (C j) → i = j
  row : ∀ i b, φ i = some b → BR φ i (C i) w.heap[b]?
/-- from one state to another: names stay; what no live block names stays as it was; names from m on may be new -/
structure StepM (m : Nat) (φ : Ren) (C : Nat → Option Blk) (w : World) (φ' : Ren) (C' : Nat → Option Blk) (n' : Nat) (w' : World) : Prop where
  hr : HR φ' C' n' w'
  ext : φ.le φ'
  old : ∀ i b, i < m → φ' i = some b → φ i = some b
  le : m ≤ n'
  liv : ∀ i, i < m → Blk.live (C' i) → Blk.live (C i)
  ro : ∀ i cs, C' i = some (.ro cs) → C i = some (.ro cs)
  new : ∀ i b, m ≤ i → φ' i = some b → Blk.live (C' i) → w.heap.size ≤ b ∨ ∃ j, φ j = some b ∧ Blk.live (C j)
  size : w.heap.size ≤ w'.heap.size
  frame : ∀ b, b < w.heap.size → (∀ i, φ i = some b → ¬ Blk.live (C i)) → w'.heap[b]? = w.heap[b]?
  same : Same w w'
abbrev Step (φ : Ren) (C : Nat → Option Blk) (n : Nat) (w : World) (φ' : Ren) (C' : Nat → Option Blk) (n' : Nat) (w' : World) : Prop := StepM n φ C w φ' C' n' w'
theorem Step.refl {φ : Ren} {C : Nat → Option Blk} {n : Nat} {w : World} (h : HR φ C n w) : Step φ C n w φ C n w :=
  ⟨h, φ.le_refl, fun _ _ _ h => h, Nat.le_refl _, fun _ _ h => h, fun _ _ h => h, fun i b hi hb => absurd (h.lt i b hb).1 (by omega), Nat.le_refl _, fun _ _ _ => rfl, .refl w⟩
theorem StepM.trans {m m' : Nat} {φ φ' φ'' : Ren} {C C' C'' : Nat → Option Blk} {n' n'' : Nat} {w w' w'' : World} (h : StepM m φ C w φ' C' n' w') (k : StepM m' φ' C' w' φ'' C'' n'' w'') (hm : m ≤ m') : StepM m φ C w φ'' C'' n'' w'' := by
  have kn := k.le
  have hs := h.size
  have ks := k.size
  have live' : ∀ i b, φ' i = some b → b < w.heap.size → Blk.live (C' i) → ∃ j, φ j = some b ∧ Blk.live (C j) := by
    intro i b hb hlt hl
    by_cases hi : i < m
    · exact ⟨i, h.old i b hi hb, h.liv i hi hl⟩
    · rcases h.new i b (by omega) hb hl with h1 | h1
      · omega
      · exact h1
  refine ⟨k.hr, Ren.le_trans h.ext k.ext, fun i b hi hb => h.old i b hi (k.old i b (by omega) hb), by omega, fun i hi hl => h.liv i hi (k.liv i (by omega) hl), fun i cs hc => h.ro i cs (k.ro i cs hc), fun i b hi hb hl => ?_, by omega, fun b hb hno => ?_, h.same.trans k.same⟩
  · by_cases hi' : i < m'
    · exact h.new i b hi (k.old i b hi' hb) (k.liv i hi' hl)
    · rcases k.new i b (by omega) hb hl with h1 | ⟨j, h1, h2⟩
      · exact .inl (by omega)
      · by_cases hbw : b < w.heap.size
        · exact .inr (live' j b h1 hbw h2)
        · exact .inl (by omega)
  · rw [k.frame b (by omega) fun i hi hl => ?_, h.frame b hb hno]
    obtain ⟨j, h1, h2⟩ := live' i b hi hb hl
    exact hno j h1 h2
theorem Step.trans {φ φ' φ'' : Ren} {C C' C'' : Nat → Option Blk} {n n' n'' : Nat} {w w' w'' : World} (h : Step φ C n w φ' C' n' w') (k : Step φ' C' n' w' φ'' C'' n'' w'') : Step φ C n w φ'' C'' n'' w'' := StepM.trans h k h.le
end Go.Proofs.YtjkifbkehochoaaGreatDoor.Ev
namespace Go.Proofs.YtjkifbkehochoaaGreatDoor.Ev

section
variable (P : Program)
noncomputable def aggB (t : TypeId) : Option Bool := match P.underlying t with
  | some (.struct _) | some (.array _ _) => some true
  | some _ => some false
  | none => none
noncomputable def sizeB (t : TypeId) : Option Nat := match P.info? t with
  | some i => some i.size
  | none => none
noncomputable def zeroB (t : TypeId) : Option Value := match P.info? t with
  | some i => match i.zero with
    | some z => match plainF z with
      | true => some z
      | false => none
    | none => none
  | none => none
noncomputable def partV (t : TypeId) (cs : List Value) (off : Nat) : Option Value :=
  ob (aggB P t) fun b => match b with
    | true => ob (sizeB P t) fun s => some (.agg ⟨(cs.drop off).take s⟩)
    | false => nth cs off
end
noncomputable def rowAt (C : Nat → Option Blk) (id off n : Nat) : Option (List Value) :=
  match n with
  | 0 => some []
  | n => match C id with
    | some (.cells cs _ _ _) => let l := (cs.drop off).take n
      match Nat.beq l.length n with
      | true => some l
      | false => none
    | some (.ro cs) => let l := (cs.drop off).take n
      match Nat.beq l.length n && l.all plainF with
      | true => some l
      | false => none
    | _ => none
noncomputable def loadV (P : Program) (C : Nat → Option Blk) (t : TypeId) (x : Value) : Option Value := match x with
  | .pointer (some ⟨id, off, none⟩) => ob (aggB P t) fun b => match b with
    | true => ob (sizeB P t) fun s => ob (rowAt C id off s) fun l => some (.agg ⟨l⟩)
    | false => ob (rowAt C id off 1) fun l => nth l 0
  | _ => none

theorem run_underlying' {P : Program} {t : TypeId} {d : TypeDesc} (h : P.underlying t = some d) (w : World) : (underlying t).run P w = .ok d w := by
  unfold underlying
  simp [h]
theorem run_typeInfo' {P : Program} {t : TypeId} {i : TypeInfo} (h : P.info? t = some i) (w : World) : (typeInfo t).run P w = .ok i w := by
  unfold typeInfo
  simp [h]
theorem aggB_run {P : Program} {t : TypeId} {b : Bool} (h : aggB P t = some b) (w : World) : (isAgg t).run P w = .ok b w := by
  unfold aggB at h
  cases hu : P.underlying t with
  | none => rw [hu] at h; cases h
  | some d =>
    rw [hu] at h
    unfold isAgg
    cases d <;> (cases h; simp [run_underlying' hu])
theorem sizeB_run {P : Program} {t : TypeId} {s : Nat} (h : sizeB P t = some s) (w : World) : (sizeOf t).run P w = .ok s w := by
  unfold sizeB at h
  cases hu : P.info? t with
  | none => rw [hu] at h; cases h
  | some i =>
    rw [hu] at h
    cases h
    unfold sizeOf
    simp [run_typeInfo' hu]
theorem zeroB_run {P : Program} {t : TypeId} {z : Value} (h : zeroB P t = some z) (w : World) : (zeroValue t).run P w = .ok z w ∧ plain 20 z = true := by
  unfold zeroB at h
  cases hu : P.info? t with
  | none => rw [hu] at h; cases h
  | some i =>
    rw [hu] at h
    simp only at h
    cases hz : i.zero with
    | none => rw [hz] at h; cases h
    | some z' =>
      rw [hz] at h
      simp only at h
      split at h
      · rename_i hp
        rw [plainF_eq] at hp
        cases h
        unfold zeroValue
        simp [run_typeInfo' hu, hz, hp]
      · cases h
theorem list_at {φ : Ren} {cs : List Value} {b : Array Value} (h : LR φ cs b.toList) {i : Nat} {x : Value} (hx : nth cs i = some x) : ∃ y, b[i]? = some y ∧ VR φ x y := by
  rw [nth_eq] at hx
  obtain ⟨y, hy, hr⟩ := h.at hx
  exact ⟨y, by simpa using hy, hr⟩
theorem partV_run {P : Program} {φ : Ren} {t : TypeId} {cs : List Value} {b : Array Value} {off : Nat} {v : Value} (hl : LR φ cs b.toList) (h : partV P t cs off = some v) : ∃ v', VR φ v v' ∧ ∀ w, (part t b off).run P w = .ok v' w := by
  unfold partV at h
  obtain ⟨g, hg, h⟩ := ob_some h
  unfold part
  cases g with
  | true =>
    simp only at h
    obtain ⟨s, hs, h⟩ := ob_some h
    cases h
    refine ⟨.agg (b.extract off (off + s)), ?_, fun w => by simp [aggB_run hg, sizeB_run hs]⟩
    have : b.extract off (off + s) = ⟨(b.toList.drop off).take s⟩ := by
      apply Array.ext'
      simp [List.extract_eq_take_drop]
    rw [this]
    exact VR.ofAgg ((hl.drop off).take s)
  | false =>
    simp only at h
    obtain ⟨y, hy, hr⟩ := list_at hl h
    exact ⟨y, hr, fun w => by simp [aggB_run hg, hy]⟩
theorem add_none (b o i : Nat) : (⟨b, o, none⟩ : Addr).add i = ⟨b, o + i, none⟩ := by unfold Addr.add; split <;> simp_all
theorem rowAt_run {P : Program} {φ : Ren} {C : Nat → Option Blk} {n : Nat} {w : World} (hr : HR φ C n w) {id b off k : Nat} {l : List Value} (hb : φ.f id = some b) (h : rowAt C id off k = some l) :
    ∃ l', l.length = k ∧ LR φ l l' ∧ (∀ (j : Nat) (v : Value), l'[j]? = some v → w.cell? ⟨b, off + j, none⟩ = some v) ∧ (loadCells ⟨b, off, none⟩ k).run P w = .ok l'.toArray w := by
  have key : ∀ (cs : List Value) (c : Array Value) (e : TypeId) (f : Nat × Nat), w.heap[b]? = some (.cells c e f) → (∀ (j : Nat) (x : Value), j < k → cs[off + j]? = some x → ∃ y, c[off + j]? = some y ∧ VR φ x y) → ((cs.drop off).take k).length = k → l = (cs.drop off).take k →
      ∃ l', l.length = k ∧ LR φ l l' ∧ (∀ (j : Nat) (v : Value), l'[j]? = some v → w.cell? ⟨b, off + j, none⟩ = some v) ∧ (loadCells ⟨b, off, none⟩ k).run P w = .ok l'.toArray w := by
    intro cs c e f hc hR hlen hl
    have hl2 : off + k ≤ cs.length ∨ k = 0 := by simp at hlen; omega
    have hat : ∀ j, j < k → ∃ y, c[off + j]? = some y ∧ VR φ (cs[off + j]?.getD undef) y := by
      intro j hj
      have hlt : off + j < cs.length := by omega
      obtain ⟨y, hy, hv⟩ := hR j cs[off + j] hj (List.getElem?_eq_getElem hlt)
      exact ⟨y, hy, by rw [List.getElem?_eq_getElem hlt]; exact hv⟩
    have hsz : k = 0 ∨ off + k ≤ c.size := by
      rcases Nat.eq_zero_or_pos k with h0 | h0
      · exact .inl h0
      · obtain ⟨y, hy, -⟩ := hat (k - 1) (by omega)
        have := (Array.getElem?_eq_some_iff.1 hy).1
        exact .inr (by omega)
    have hcell : ∀ (j : Nat) (v : Value), ((c.toList.drop off).take k)[j]? = some v → w.cell? ⟨b, off + j, none⟩ = some v := by
      intro j v hv
      rw [List.getElem?_take] at hv
      split at hv
      · rw [List.getElem?_drop] at hv
        simp [World.cell?, hc]
        simpa using hv
      · cases hv
    have hL : LR φ l ((c.toList.drop off).take k) := by
      subst hl
      refine ⟨by simp; omega, fun j x y hx hy => ?_⟩
      rw [List.getElem?_take] at hx hy
      split at hx
      · rename_i hj
        rw [if_pos hj] at hy
        rw [List.getElem?_drop] at hx hy
        obtain ⟨z, hz, hv⟩ := hat j hj
        rw [hx] at hv
        have : c[off + j]? = some y := by simpa using hy
        rw [this] at hz
        cases hz
        exact hv
      · cases hx
    refine ⟨(c.toList.drop off).take k, by rw [hl, hlen], hL, hcell, ?_⟩
    have := run_loadCells_list (P := P) w ⟨b, off, none⟩ ((c.toList.drop off).take k) (fun j v hv => by rw [add_none]; exact hcell j v hv)
    have hk : ((c.toList.drop off).take k).length = k := by rw [← hL.1, hl, hlen]
    rw [hk] at this
    exact this
  have hrow := hr.row id b hb
  unfold rowAt at h
  split at h
  · cases h
    exact ⟨[], rfl, LR.nil, fun j v hv => by simp at hv, rfl⟩
  · rename_i hk
    split at h
    · rename_i cs e ex fz hC
      simp only at h
      split at h
      · rename_i hbeq
        cases h
        rw [hC] at hrow
        obtain ⟨c, f, h1, h2, h3, h4⟩ := hrow
        exact key cs c e f h1 (fun j x _ hx => h3 (off + j) x hx) (Nat.eq_of_beq_eq_true hbeq) rfl
      · cases h
    · rename_i cs hC
      simp only at h
      split at h
      · rename_i hbeq
        cases h
        rw [hC] at hrow
        obtain ⟨c, e, f, h1, h3⟩ := hrow
        obtain ⟨hbeq, hpl⟩ := Bool.and_eq_true_iff.1 hbeq
        refine key cs c e f h1 (fun j x hj hx => ⟨x, h3 _ x hx, VR.self 20 x ?_⟩) (Nat.eq_of_beq_eq_true hbeq) rfl
        rw [← plainF_eq]
        refine List.all_eq_true.1 hpl x (List.mem_of_getElem? (i := j) ?_)
        rw [List.getElem?_take, if_pos hj, List.getElem?_drop]
        exact hx
      · cases h
    · cases h
theorem loadV_run {P : Program} {φ : Ren} {C : Nat → Option Blk} {n : Nat} {w : World} (hr : HR φ C n w) {t : TypeId} {x x' v : Value} (hx : VR φ x x') (h : loadV P C t x = some v) :
    ∃ a, x' = .pointer (some a) ∧ ∃ v', VR φ v v' ∧ (loadVar t a).run P w = .ok v' w := by
  unfold loadV at h
  split at h
  · rename_i id off
    cases hx with
    | ptr hb =>
      rename_i b
      refine ⟨_, rfl, ?_⟩
      obtain ⟨g, hg, h⟩ := ob_some h
      unfold loadVar
      cases g with
      | true =>
        simp only at h
        obtain ⟨s, hs, h⟩ := ob_some h
        obtain ⟨l, hl, h⟩ := ob_some h
        cases h
        obtain ⟨l', h1, h2, h3, h4⟩ := rowAt_run (P := P) hr hb hl
        exact ⟨.agg l'.toArray, VR.ofAgg h2, by simp [aggB_run hg, sizeB_run hs, h4]⟩
      | false =>
        simp only at h
        obtain ⟨l, hl, h⟩ := ob_some h
        obtain ⟨l', h1, h2, h3, h4⟩ := rowAt_run (P := P) hr hb hl
        rw [nth_eq] at h
        obtain ⟨y, hy, hv⟩ := h2.at h
        have hc := h3 0 y hy
        exact ⟨y, hv, by simp [aggB_run hg]; rw [show (⟨b, off, none⟩ : Addr) = ⟨b, off + 0, none⟩ by rfl, hc]⟩
  · cases h
end Go.Proofs.YtjkifbkehochoaaGreatDoor.Ev
namespace Go.Proofs.YtjkifbkehochoaaGreatDoor.Ev

noncomputable def pureRun {α : Type} (P : Program) : Sem α → Option α
  | .pure a => some a
  | .program k => pureRun P (k P)
  | .mark _ k => pureRun P k
  | .choose q k => if q.forced then pureRun P (k 0) else none
  | _ => none
theorem pureRun_run {α : Type} {P : Program} {s : Sem α} {a : α} (h : pureRun P s = some a) (w : World) : s.run P w = .ok a w := by
  induction s with
  | pure b => simp [pureRun] at h; subst h; rfl
  | program k ih => exact ih P h
  | mark m k ih => exact ih h
  | choose q k ih =>
    simp only [pureRun] at h
    split at h
    · rename_i hq
      simp only [Sem.run, hq, if_true]
      exact ih 0 h
    · cases h
  | _ => simp [pureRun] at h
noncomputable def plainAll (l : List Value) : Bool := l.all fun v => plain 20 v
theorem LR.same {φ : Ren} {a b : List Value} (hp : plainAll a = true) (h : LR φ a b) : a = b := all_same (VR.same 20) hp h

/-- slices and strings cut -/
noncomputable def boundsOf (x : Value) (y : Nat) : Option Nat := match x with
  | .int _ i => if 0 ≤ i ∧ i ≤ (y : Int) then some i.toNat else none
  | _ => none
noncomputable def optB (x : Option Value) (y d : Nat) : Option Nat := match x with
  | some v => boundsOf v y
  | none => some d
noncomputable def capOf (mx : Option Value) (m cap : Nat) : Nat := match mx with
  | some _ => m
  | none => cap
noncomputable def okB (mx hi : Option Value) : Bool := match mx, hi with
  | some _, none => false
  | _, _ => true
inductive VO (φ : Ren) : Option Value → Option Value → Prop
  | none : VO φ none none
  | some {v v' : Value} (h : VR φ v v') : VO φ (some v) (some v')
theorem boundsOf_run {P : Program} {φ : Ren} {x x' : Value} {y r : Nat} (hx : VR φ x x') (h : boundsOf x y = some r) (y' : Nat) (hy : y ≤ y') (code : BoundsCode) (w : World) : (Instr.sliceBound x' y' code).run P w = .ok r w ∧ r ≤ y := by
  unfold boundsOf at h
  split at h
  · cases hx
    split at h
    · rename_i hi
      cases h
      refine ⟨?_, by omega⟩
      unfold Instr.sliceBound
      simp only [asIntOf, Sem.run_bind, Sem.run_pure, Result.andThen_ok]
      rw [if_pos (by omega)]
      rfl
    · cases h
  · cases h
noncomputable def sliceV (P : Program) (t : TypeId) (x : Value) (lo hi mx : Option Value) : Option Value :=
  match P.underlying t, x with
  | some .string, .string s => match mx with
    | some _ => none
    | none => ob (optB hi s.size s.size) fun h => ob (optB lo h 0) fun l => some (.string ⟨⟨(s.data.toList.drop l).take (h - l)⟩⟩)
  | some (.slice e), .slice a len cap => match a, Nat.beq cap unk with
    | none, true => none
    | some _, true => match mx with
      | some _ => ob (optB mx len len) fun m => ob (optB hi m len) fun h => ob (optB lo h 0) fun l => ob (sizeB P e) fun s =>
        match okB mx hi && Nat.ble (len + 1) unk with
        | false => none
        | true => match Nat.beq m l with
          | true => some (.slice a (h - l) (m - l))
          | false => some (.slice (a.map (·.add (l * s))) (h - l) (m - l))
      | none => ob (optB hi len len) fun h => ob (optB lo h 0) fun l => ob (sizeB P e) fun s =>
        match Nat.beq l 0 with
        | true => some (.slice a h unk)
        | false => match Nat.ble (l + 1) len && Nat.ble 1 s with
          | true => some (.slice (a.map (·.add (l * s))) (h - l) unk)
          | false => none
    | a, false => ob (optB mx cap cap) fun m => ob (optB hi (capOf mx m cap) len) fun h => ob (optB lo h 0) fun l => ob (sizeB P e) fun s =>
      match okB mx hi && Nat.ble (cap + 1) unk with
      | false => none
      | true => match Nat.beq m l with
        | true => some (.slice a (h - l) (m - l))
        | false => some (.slice (a.map (·.add (l * s))) (h - l) (m - l))
  | some (.array n e), .pointer (some a) =>
    ob (optB mx n n) fun m => ob (optB hi (capOf mx m n) n) fun h => ob (optB lo h 0) fun l => ob (sizeB P e) fun s =>
      match okB mx hi && Nat.ble (n + 1) unk with
      | false => none
      | true => match Nat.beq m l with
        | true => some (.slice (some a) (h - l) (m - l))
        | false => some (.slice (some (a.add (l * s))) (h - l) (m - l))
  | _, _ => none
theorem extract_bytes (s : ByteArray) (l h : Nat) : s.extract l h = ⟨⟨(s.data.toList.drop l).take (h - l)⟩⟩ := by
  apply ByteArray.ext
  apply Array.ext'
  simp [ByteArray.data_extract, List.extract_eq_take_drop]
theorem sliceBounds_run {P : Program} {φ : Ren} {lo hi mx lo' hi' mx' : Option Value} (hlo : VO φ lo lo') (hhi : VO φ hi hi') (hmx : VO φ mx mx') {len cap cap' m h l : Nat}
    (hm : optB mx cap cap = some m) (hh : optB hi (capOf mx m cap) len = some h) (hl : optB lo h 0 = some l) (hok : okB mx hi = true)
    (hc : cap ≤ cap') (isS : Bool) (w : World) :
    (Instr.sliceBounds isS len cap' lo' hi' mx').run P w = .ok (l, h, capOf mx m cap') w ∧ l ≤ h ∧ (len ≤ cap → h ≤ cap) ∧ m ≤ cap ∧ (mx = none → m = cap) := by
  unfold Instr.sliceBounds
  cases hmx with
  | none =>
    cases hm
    simp only [capOf] at hh ⊢
    have hcc : cap ≤ cap' := hc
    cases hhi with
    | none =>
      cases hh
      cases hlo with
      | none => cases hl; simp
      | some hv =>
        obtain ⟨h1, h2⟩ := boundsOf_run (P := P) hv hl len (Nat.le_refl _) .sliceB w
        simp [h1]; omega
    | some hv =>
      obtain ⟨h1, h2⟩ := boundsOf_run (P := P) hv hh cap' hcc (if isS = true then .sliceAcap else .sliceAlen) w
      cases hlo with
      | none => cases hl; simp [h1]; omega
      | some hv2 =>
        obtain ⟨h3, h4⟩ := boundsOf_run (P := P) hv2 hl h (Nat.le_refl _) .sliceB w
        simp [h1, h3]; omega
  | some hv0 =>
    simp only [capOf] at hh ⊢
    · obtain ⟨h5, h6⟩ := boundsOf_run (P := P) hv0 hm cap' hc (if isS = true then .slice3Acap else .slice3Alen) w
      cases hhi with
      | none => cases hok
      | some hv =>
        obtain ⟨h1, h2⟩ := boundsOf_run (P := P) hv hh m (Nat.le_refl _) .slice3B w
        cases hlo with
        | none => cases hl; simp [h1, h5]; omega
        | some hv2 =>
          obtain ⟨h3, h4⟩ := boundsOf_run (P := P) hv2 hl h (Nat.le_refl _) .slice3C w
          simp [h1, h3, h5]; omega
theorem CR.of_known {q o n c c' : Nat} (h : CR q o n c c') (hk : Nat.beq c unk = false) : c' = c := by
  rcases h with ⟨h, -⟩ | ⟨-, h⟩
  · rw [h, Nat.beq_refl] at hk; cases hk
  · exact h
theorem CR.of_unk {q o n c c' : Nat} (h : CR q o n c c') (hk : Nat.beq c unk = true) : c = unk ∧ n ≤ c' ∧ (o = 0 → c' = q) := by
  rcases h with h | ⟨h, -⟩
  · exact h
  · exact absurd (Nat.eq_of_beq_eq_true hk) h
theorem CR.known {q o n c : Nat} (hk : c < unk) : CR q o n c c := .inr ⟨by omega, rfl⟩
theorem sliceV_run {P : Program} {φ : Ren} {t : TypeId} {x x' v : Value} {lo hi mx lo' hi' mx' : Option Value} (hx : VR φ x x') (hlo : VO φ lo lo') (hhi : VO φ hi hi') (hmx : VO φ mx mx')
    (h : sliceV P t x lo hi mx = some v) : ∃ v', VR φ v v' ∧ ∀ w, (Instr.sliceAt t x' lo' hi' mx').run P w = .ok v' w := by
  unfold sliceV at h
  split at h
  · rename_i s hu
    cases hx
    split at h
    · cases h
    · cases hmx
      replace h := ob_some h
      obtain ⟨h1, e1, h⟩ := h
      replace h := ob_some h
      obtain ⟨l1, e2, h⟩ := h
      cases h
      refine ⟨_, .string _, fun w => ?_⟩
      have := (sliceBounds_run (P := P) hlo hhi .none (cap := s.size) (cap' := s.size) rfl e1 e2 rfl (Nat.le_refl _) false w).1
      simp only [Instr.sliceAt, Instr.slice, Sem.run_bind, run_underlying' hu, Result.andThen_ok, this, extract_bytes]
      simp [this, extract_bytes]
  · rename_i e a len cap hu
    have hat : ∀ (w : World), (Instr.sliceAt t x' lo' hi' mx').run P w = (Instr.slice t x' lo' hi' mx').run P w := fun w => by
      simp [Instr.sliceAt, run_underlying' hu]
    split at h
    · cases h
    · rename_i a hcap
      split at h
      · rename_i mv
        replace h := ob_some h
        obtain ⟨m, e0, h⟩ := h
        replace h := ob_some h
        obtain ⟨h1, e1, h⟩ := h
        replace h := ob_some h
        obtain ⟨l1, e2, h⟩ := h
        replace h := ob_some h
        obtain ⟨s, hs, h⟩ := h
        split at h
        · cases h
        rename_i hok0
        simp only [Bool.and_eq_true] at hok0
        obtain ⟨hok, hcu0⟩ := hok0
        have hcu := Nat.le_of_ble_eq_true hcu0
        cases hx with
        | @sl i o b _ _ cap' hb hc =>
          obtain ⟨-, hle, -⟩ := hc.of_unk hcap
          have key := fun w => sliceBounds_run (P := P) hlo hhi hmx (cap := len) (cap' := cap') e0 e1 e2 hok hle true w
          have hm : capOf mx' m cap' = m := by cases hmx with | some _ => rfl
          have hm : capOf (some mv) m cap' = m := rfl
          have hmc := (key default).2.2.2.1
          refine ⟨.slice (some (if m = l1 then ⟨b, o, none⟩ else (⟨b, o, none⟩ : Addr).add (l1 * s))) (h1 - l1) (m - l1), ?_, fun w => (hat w).trans ?_⟩
          · split at h
            · rename_i hbq
              cases h
              rw [if_pos (Nat.eq_of_beq_eq_true hbq)]
              exact .sl hb (.inr ⟨by omega, rfl⟩)
            · rename_i hbq
              cases h
              rw [if_neg (fun he => by rw [he, Nat.beq_refl] at hbq; cases hbq), add_none]
              simp only [Option.map_some, add_none]
              exact .sl hb (.inr ⟨by omega, rfl⟩)
          · simp only [Instr.slice, Sem.run_bind, run_underlying' hu, Result.andThen_ok, (key w).1, hm, sizeB_run hs, Sem.run_pure]
            split <;> simp_all
      · cases hmx
        replace h := ob_some h
        obtain ⟨h1, e1, h⟩ := h
        replace h := ob_some h
        obtain ⟨l1, e2, h⟩ := h
        replace h := ob_some h
        obtain ⟨s, hs, h⟩ := h
        cases hx with
        | @sl i o b _ _ cap' hb hc =>
          obtain ⟨hcu, hle, hcq⟩ := hc.of_unk hcap
          have key := fun w => sliceBounds_run (P := P) hlo hhi .none (cap := len) (cap' := cap') rfl e1 e2 rfl hle true w
          have kb := (key default).2
          have hrun : ∀ w, (Instr.slice t (.slice (some ⟨b, o, none⟩) len cap') lo' hi' none).run P w = .ok (.slice (some (if cap' = l1 then ⟨b, o, none⟩ else (⟨b, o, none⟩ : Addr).add (l1 * s))) (h1 - l1) (cap' - l1)) w := fun w => by
            simp only [Instr.slice, Sem.run_bind, run_underlying' hu, Result.andThen_ok, (key w).1, sizeB_run hs, capOf, Sem.run_pure]
            split <;> simp_all
          split at h
          · rename_i hl
            cases h
            have hl := Nat.eq_of_beq_eq_true hl
            subst hl
            refine ⟨_, ?_, fun w => (hat w).trans (hrun w)⟩
            have e : (if cap' = 0 then (⟨b, o, none⟩ : Addr) else (⟨b, o, none⟩ : Addr).add (0 * s)) = ⟨b, o, none⟩ := by
              rw [add_none]; split <;> simp
            rw [e]
            exact .sl hb (.inl ⟨rfl, by omega, hcq⟩)
          · rename_i hl0
            split at h
            · rename_i hlt
              cases h
              simp only [Bool.and_eq_true] at hlt
              have hs1 := Nat.le_of_ble_eq_true hlt.2
              have hl1 : 1 ≤ l1 := by
                rcases Nat.eq_zero_or_pos l1 with h0 | h0
                · subst h0; cases hl0
                · exact h0
              have hmul : 1 ≤ l1 * s := Nat.mul_pos hl1 hs1
              have hlt := Nat.le_of_ble_eq_true hlt.1
              refine ⟨_, ?_, fun w => (hat w).trans (hrun w)⟩
              rw [if_neg (by omega), add_none]
              simp only [Option.map_some, add_none]
              exact .sl hb (.inl ⟨rfl, by omega, fun h0 => by omega⟩)
            · cases h
    · rename_i a hcap
      replace h := ob_some h
      obtain ⟨m, e0, h⟩ := h
      replace h := ob_some h
      obtain ⟨h1, e1, h⟩ := h
      replace h := ob_some h
      obtain ⟨l1, e2, h⟩ := h
      replace h := ob_some h
      obtain ⟨s, hs, h⟩ := h
      split at h
      · cases h
      rename_i hok0
      simp only [Bool.and_eq_true] at hok0
      obtain ⟨hok, hcu0⟩ := hok0
      have hcu := Nat.le_of_ble_eq_true hcu0
      cases hx with
      | sl0 =>
        have key := fun w => sliceBounds_run (P := P) hlo hhi hmx (cap := cap) (cap' := cap) e0 e1 e2 hok (Nat.le_refl _) true w
        have hm : capOf mx m cap = m := by
          cases mx with
          | none => exact ((key default).2.2.2.2 rfl).symm
          | some q => rfl
        refine ⟨.slice none (h1 - l1) (m - l1), ?_, fun w => (hat w).trans ?_⟩
        · split at h <;> (cases h; exact .sl0 _ _)
        · simp [Instr.slice, run_underlying' hu, (key w).1, sizeB_run hs, hm]
      | @sl i o b _ _ cap' hb hc =>
        have hce := hc.of_known hcap
        subst hce
        have key := fun w => sliceBounds_run (P := P) hlo hhi hmx (cap := cap') (cap' := cap') e0 e1 e2 hok (Nat.le_refl _) true w
        have hm : capOf mx m cap' = m := by
          cases mx with
          | none => exact ((key default).2.2.2.2 rfl).symm
          | some q => rfl
        have hmc := (key default).2.2.2.1
        refine ⟨.slice (some (if m = l1 then ⟨b, o, none⟩ else (⟨b, o, none⟩ : Addr).add (l1 * s))) (h1 - l1) (m - l1), ?_, fun w => (hat w).trans ?_⟩
        · split at h
          · rename_i hbq
            cases h
            rw [if_pos (Nat.eq_of_beq_eq_true hbq)]
            exact .sl hb (.inr ⟨by omega, rfl⟩)
          · rename_i hbq
            cases h
            rw [if_neg (fun he => by rw [he, Nat.beq_refl] at hbq; cases hbq), add_none]
            simp only [Option.map_some, add_none]
            exact .sl hb (.inr ⟨by omega, rfl⟩)
        · simp only [Instr.slice, Sem.run_bind, run_underlying' hu, Result.andThen_ok, (key w).1, hm, sizeB_run hs, Sem.run_pure]
          split <;> simp_all
  · rename_i n e a hu
    replace h := ob_some h
    obtain ⟨m, e0, h⟩ := h
    replace h := ob_some h
    obtain ⟨h1, e1, h⟩ := h
    replace h := ob_some h
    obtain ⟨l1, e2, h⟩ := h
    replace h := ob_some h
    obtain ⟨s, hs, h⟩ := h
    split at h
    · cases h
    rename_i hok0
    simp only [Bool.and_eq_true] at hok0
    obtain ⟨hok, hcu0⟩ := hok0
    have hcu := Nat.le_of_ble_eq_true hcu0
    cases hx with
    | @ptr i o b hb =>
      have key := fun w => sliceBounds_run (P := P) hlo hhi hmx (cap := n) (cap' := n) e0 e1 e2 hok (Nat.le_refl _) false w
      have hm : capOf mx m n = m := by
        cases mx with
        | none => exact ((key default).2.2.2.2 rfl).symm
        | some q => rfl
      have hmc := (key default).2.2.2.1
      refine ⟨.slice (some (if m = l1 then ⟨b, o, none⟩ else (⟨b, o, none⟩ : Addr).add (l1 * s))) (h1 - l1) (m - l1), ?_, fun w => ?_⟩
      · split at h
        · rename_i hbq
          cases h
          rw [if_pos (Nat.eq_of_beq_eq_true hbq)]
          exact .sl hb (.inr ⟨by omega, rfl⟩)
        · rename_i hbq
          cases h
          rw [if_neg (fun he => by rw [he, Nat.beq_refl] at hbq; cases hbq), add_none, add_none]
          exact .sl hb (.inr ⟨by omega, rfl⟩)
      · simp only [Instr.sliceAt, Instr.sureAddr, Sem.run_bind, run_underlying' hu, Result.andThen_ok, Sem.run_pure, (key w).1, hm, sizeB_run hs]
  · cases h
end Go.Proofs.YtjkifbkehochoaaGreatDoor.Ev
