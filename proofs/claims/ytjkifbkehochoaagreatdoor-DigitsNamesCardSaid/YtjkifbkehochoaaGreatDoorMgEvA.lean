/- The evaluator of closed calls, part EvA. The evaluator of closed calls, part EvB. -/
import Derived.Calls
import Derived.Orders
import Derived.Laws.IdiomCopy
import Derived.Laws.Sem
import Derived.Laws.Cells
import Derived.Laws.Append
import Derived.Laws.Tables
import Derived.Laws.Build
import Derived.Laws.BytesString
import Derived.Laws.StructEq
set_option linter.unusedSimpArgs false
set_option linter.unusedVariables false
namespace Go.Proofs.YtjkifbkehochoaaGreatDoor.Ev
/-- a node of sixteen -/
structure N16 (α : Type) where
  a0 : α
  a1 : α
  a2 : α
  a3 : α
  a4 : α
  a5 : α
  a6 : α
  a7 : α
  a8 : α
  a9 : α
  a10 : α
  a11 : α
  a12 : α
  a13 : α
  a14 : α
  a15 : α
/-- reading and writing one of the sixteen: closed terms, so that the kernel reckons each once -/
structure Sel (α : Type) where
  get : N16 α → α
  set : α → N16 α → N16 α
noncomputable def mkSel {α : Type} (n : Nat) : Sel α := match n with
  | 0 => ⟨N16.a0, fun x t => N16.casesOn (motive := fun _ => N16 α) t fun a0 a1 a2 a3 a4 a5 a6 a7 a8 a9 a10 a11 a12 a13 a14 a15 => ⟨x, a1, a2, a3, a4, a5, a6, a7, a8, a9, a10, a11, a12, a13, a14, a15⟩⟩
  | 1 => ⟨N16.a1, fun x t => N16.casesOn (motive := fun _ => N16 α) t fun a0 a1 a2 a3 a4 a5 a6 a7 a8 a9 a10 a11 a12 a13 a14 a15 => ⟨a0, x, a2, a3, a4, a5, a6, a7, a8, a9, a10, a11, a12, a13, a14, a15⟩⟩
  | 2 => ⟨N16.a2, fun x t => N16.casesOn (motive := fun _ => N16 α) t fun a0 a1 a2 a3 a4 a5 a6 a7 a8 a9 a10 a11 a12 a13 a14 a15 => ⟨a0, a1, x, a3, a4, a5, a6, a7, a8, a9, a10, a11, a12, a13, a14, a15⟩⟩
  | 3 => ⟨N16.a3, fun x t => N16.casesOn (motive := fun _ => N16 α) t fun a0 a1 a2 a3 a4 a5 a6 a7 a8 a9 a10 a11 a12 a13 a14 a15 => ⟨a0, a1, a2, x, a4, a5, a6, a7, a8, a9, a10, a11, a12, a13, a14, a15⟩⟩
  | 4 => ⟨N16.a4, fun x t => N16.casesOn (motive := fun _ => N16 α) t fun a0 a1 a2 a3 a4 a5 a6 a7 a8 a9 a10 a11 a12 a13 a14 a15 => ⟨a0, a1, a2, a3, x, a5, a6, a7, a8, a9, a10, a11, a12, a13, a14, a15⟩⟩
  | 5 => ⟨N16.a5, fun x t => N16.casesOn (motive := fun _ => N16 α) t fun a0 a1 a2 a3 a4 a5 a6 a7 a8 a9 a10 a11 a12 a13 a14 a15 => ⟨a0, a1, a2, a3, a4, x, a6, a7, a8, a9, a10, a11, a12, a13, a14, a15⟩⟩
  | 6 => ⟨N16.a6, fun x t => N16.casesOn (motive := fun _ => N16 α) t fun a0 a1 a2 a3 a4 a5 a6 a7 a8 a9 a10 a11 a12 a13 a14 a15 => ⟨a0, a1, a2, a3, a4, a5, x, a7, a8, a9, a10, a11, a12, a13, a14, a15⟩⟩
  | 7 => ⟨N16.a7, fun x t => N16.casesOn (motive := fun _ => N16 α) t fun a0 a1 a2 a3 a4 a5 a6 a7 a8 a9 a10 a11 a12 a13 a14 a15 => ⟨a0, a1, a2, a3, a4, a5, a6, x, a8, a9, a10, a11, a12, a13, a14, a15⟩⟩
  | 8 => ⟨N16.a8, fun x t => N16.casesOn (motive := fun _ => N16 α) t fun a0 a1 a2 a3 a4 a5 a6 a7 a8 a9 a10 a11 a12 a13 a14 a15 => ⟨a0, a1, a2, a3, a4, a5, a6, a7, x, a9, a10, a11, a12, a13, a14, a15⟩⟩
  | 9 => ⟨N16.a9, fun x t => N16.casesOn (motive := fun _ => N16 α) t fun a0 a1 a2 a3 a4 a5 a6 a7 a8 a9 a10 a11 a12 a13 a14 a15 => ⟨a0, a1, a2, a3, a4, a5, a6, a7, a8, x, a10, a11, a12, a13, a14, a15⟩⟩
  | 10 => ⟨N16.a10, fun x t => N16.casesOn (motive := fun _ => N16 α) t fun a0 a1 a2 a3 a4 a5 a6 a7 a8 a9 a10 a11 a12 a13 a14 a15 => ⟨a0, a1, a2, a3, a4, a5, a6, a7, a8, a9, x, a11, a12, a13, a14, a15⟩⟩
  | 11 => ⟨N16.a11, fun x t => N16.casesOn (motive := fun _ => N16 α) t fun a0 a1 a2 a3 a4 a5 a6 a7 a8 a9 a10 a11 a12 a13 a14 a15 => ⟨a0, a1, a2, a3, a4, a5, a6, a7, a8, a9, a10, x, a12, a13, a14, a15⟩⟩
  | 12 => ⟨N16.a12, fun x t => N16.casesOn (motive := fun _ => N16 α) t fun a0 a1 a2 a3 a4 a5 a6 a7 a8 a9 a10 a11 a12 a13 a14 a15 => ⟨a0, a1, a2, a3, a4, a5, a6, a7, a8, a9, a10, a11, x, a13, a14, a15⟩⟩
  | 13 => ⟨N16.a13, fun x t => N16.casesOn (motive := fun _ => N16 α) t fun a0 a1 a2 a3 a4 a5 a6 a7 a8 a9 a10 a11 a12 a13 a14 a15 => ⟨a0, a1, a2, a3, a4, a5, a6, a7, a8, a9, a10, a11, a12, x, a14, a15⟩⟩
  | 14 => ⟨N16.a14, fun x t => N16.casesOn (motive := fun _ => N16 α) t fun a0 a1 a2 a3 a4 a5 a6 a7 a8 a9 a10 a11 a12 a13 a14 a15 => ⟨a0, a1, a2, a3, a4, a5, a6, a7, a8, a9, a10, a11, a12, a13, x, a15⟩⟩
  | _ => ⟨N16.a15, fun x t => N16.casesOn (motive := fun _ => N16 α) t fun a0 a1 a2 a3 a4 a5 a6 a7 a8 a9 a10 a11 a12 a13 a14 a15 => ⟨a0, a1, a2, a3, a4, a5, a6, a7, a8, a9, a10, a11, a12, a13, a14, x⟩⟩
theorem sel_same {α : Type} (n : Nat) (h : n < 16) (x : α) (t : N16 α) : (mkSel n).get ((mkSel n).set x t) = x := by
  have hn : n = 0 ∨ n = 1 ∨ n = 2 ∨ n = 3 ∨ n = 4 ∨ n = 5 ∨ n = 6 ∨ n = 7 ∨ n = 8 ∨ n = 9 ∨ n = 10 ∨ n = 11 ∨ n = 12 ∨ n = 13 ∨ n = 14 ∨ n = 15 := by omega
  cases t
  rcases hn with rfl|rfl|rfl|rfl|rfl|rfl|rfl|rfl|rfl|rfl|rfl|rfl|rfl|rfl|rfl|rfl <;> rfl
theorem sel_ne {α : Type} (n m : Nat) (h : n < 16) (k : m < 16) (hne : n ≠ m) (x : α) (t : N16 α) : (mkSel m).get ((mkSel n).set x t) = (mkSel m).get t := by
  have hn : n = 0 ∨ n = 1 ∨ n = 2 ∨ n = 3 ∨ n = 4 ∨ n = 5 ∨ n = 6 ∨ n = 7 ∨ n = 8 ∨ n = 9 ∨ n = 10 ∨ n = 11 ∨ n = 12 ∨ n = 13 ∨ n = 14 ∨ n = 15 := by omega
  have hm : m = 0 ∨ m = 1 ∨ m = 2 ∨ m = 3 ∨ m = 4 ∨ m = 5 ∨ m = 6 ∨ m = 7 ∨ m = 8 ∨ m = 9 ∨ m = 10 ∨ m = 11 ∨ m = 12 ∨ m = 13 ∨ m = 14 ∨ m = 15 := by omega
  cases t
  rcases hn with rfl|rfl|rfl|rfl|rfl|rfl|rfl|rfl|rfl|rfl|rfl|rfl|rfl|rfl|rfl|rfl <;> rcases hm with rfl|rfl|rfl|rfl|rfl|rfl|rfl|rfl|rfl|rfl|rfl|rfl|rfl|rfl|rfl|rfl <;> first | rfl | exact absurd rfl hne
noncomputable def full {α : Type} (x : α) : N16 α := ⟨x, x, x, x, x, x, x, x, x, x, x, x, x, x, x, x⟩
theorem full_get {α : Type} (n : Nat) (x : α) : (mkSel n).get (full x) = x := by
  unfold mkSel
  split <;> rfl
/-- slots: 4096 -/
abbrev TT := N16 (N16 (N16 (Option Value)))
noncomputable def TT.nil : TT := full (full (full none))
noncomputable def TT.get (t : TT) (n : Nat) : Option Value := (mkSel (Nat.mod n 16)).get ((mkSel (Nat.mod (Nat.div n 16) 16)).get ((mkSel (Nat.div n 256)).get t))
noncomputable def TT.set (t : TT) (n : Nat) (v : Value) : TT :=
  (mkSel (Nat.div n 256)).set ((mkSel (Nat.mod (Nat.div n 16) 16)).set ((mkSel (Nat.mod n 16)).set (some v) ((mkSel (Nat.mod (Nat.div n 16) 16)).get ((mkSel (Nat.div n 256)).get t))) ((mkSel (Nat.div n 256)).get t)) t
theorem TT.get_same (t : TT) (n : Nat) (v : Value) (h : n < 4096) : (t.set n v).get n = some v := by
  have h1 : n / 256 < 16 := by omega
  have h2 : n / 16 % 16 < 16 := by omega
  have h3 : n % 16 < 16 := by omega
  show (mkSel (n % 16)).get ((mkSel (n / 16 % 16)).get ((mkSel (n / 256)).get ((mkSel (n / 256)).set ((mkSel (n / 16 % 16)).set ((mkSel (n % 16)).set (some v) _) _) t))) = some v
  rw [sel_same _ h1, sel_same _ h2, sel_same _ h3]
theorem TT.get_ne (t : TT) (n m : Nat) (v : Value) (h : n < 4096) (k : m < 4096) (hne : n ≠ m) : (t.set n v).get m = t.get m := by
  have h1 : n / 256 < 16 := by omega
  have h2 : n / 16 % 16 < 16 := by omega
  have h3 : n % 16 < 16 := by omega
  have k1 : m / 256 < 16 := by omega
  have k2 : m / 16 % 16 < 16 := by omega
  have k3 : m % 16 < 16 := by omega
  show (mkSel (m % 16)).get ((mkSel (m / 16 % 16)).get ((mkSel (m / 256)).get ((mkSel (n / 256)).set ((mkSel (n / 16 % 16)).set ((mkSel (n % 16)).set (some v)
    ((mkSel (n / 16 % 16)).get ((mkSel (n / 256)).get t))) ((mkSel (n / 256)).get t)) t))) =
    (mkSel (m % 16)).get ((mkSel (m / 16 % 16)).get ((mkSel (m / 256)).get t))
  by_cases e1 : n / 256 = m / 256
  · rw [← e1, sel_same _ h1]
    by_cases e2 : n / 16 % 16 = m / 16 % 16
    · rw [← e2, sel_same _ h2, sel_ne _ _ h3 k3 (by omega)]
    · rw [sel_ne _ _ h2 k2 e2]
  · rw [sel_ne _ _ h1 k1 e1]
/-- a block: cells that may be written; cells that are only read; another object; one that is no longer to be looked at -/
inductive Blk where
  | cells (cs : List Value) (elem : TypeId) (ex : Option Nat) (fz : Option Nat)
  | ro (cs : List Value)
  | obj (o : Obj)
  | dead
abbrev HH := N16 (N16 (N16 (N16 (Option Blk))))
structure Hp where
  n : Nat
  m : HH
noncomputable def HH.nil : HH := full (full (full (full none)))
noncomputable def HH.get (t : HH) (n : Nat) : Option Blk := (mkSel (Nat.mod n 16)).get ((mkSel (Nat.mod (Nat.div n 16) 16)).get ((mkSel (Nat.mod (Nat.div n 256) 16)).get ((mkSel (Nat.div n 4096)).get t)))
noncomputable def HH.set (t : HH) (n : Nat) (v : Blk) : HH :=
  (mkSel (Nat.div n 4096)).set ((mkSel (Nat.mod (Nat.div n 256) 16)).set ((mkSel (Nat.mod (Nat.div n 16) 16)).set ((mkSel (Nat.mod n 16)).set (some v)
    ((mkSel (Nat.mod (Nat.div n 16) 16)).get ((mkSel (Nat.mod (Nat.div n 256) 16)).get ((mkSel (Nat.div n 4096)).get t))))
    ((mkSel (Nat.mod (Nat.div n 256) 16)).get ((mkSel (Nat.div n 4096)).get t))) ((mkSel (Nat.div n 4096)).get t)) t
theorem HH.get_same (t : HH) (n : Nat) (v : Blk) (h : n < 65536) : (t.set n v).get n = some v := by
  have h1 : n / 4096 < 16 := by omega
  have h2 : n / 256 % 16 < 16 := by omega
  have h3 : n / 16 % 16 < 16 := by omega
  have h4 : n % 16 < 16 := by omega
  show (mkSel (n % 16)).get ((mkSel (n / 16 % 16)).get ((mkSel (n / 256 % 16)).get ((mkSel (n / 4096)).get ((mkSel (n / 4096)).set ((mkSel (n / 256 % 16)).set ((mkSel (n / 16 % 16)).set ((mkSel (n % 16)).set (some v) _) _) _) t)))) = some v
  rw [sel_same _ h1, sel_same _ h2, sel_same _ h3, sel_same _ h4]
theorem HH.get_ne (t : HH) (n m : Nat) (v : Blk) (h : n < 65536) (k : m < 65536) (hne : n ≠ m) : (t.set n v).get m = t.get m := by
  have h1 : n / 4096 < 16 := by omega
  have h2 : n / 256 % 16 < 16 := by omega
  have h3 : n / 16 % 16 < 16 := by omega
  have h4 : n % 16 < 16 := by omega
  have k1 : m / 4096 < 16 := by omega
  have k2 : m / 256 % 16 < 16 := by omega
  have k3 : m / 16 % 16 < 16 := by omega
  have k4 : m % 16 < 16 := by omega
  show (mkSel (m % 16)).get ((mkSel (m / 16 % 16)).get ((mkSel (m / 256 % 16)).get ((mkSel (m / 4096)).get ((mkSel (n / 4096)).set ((mkSel (n / 256 % 16)).set ((mkSel (n / 16 % 16)).set ((mkSel (n % 16)).set (some v)
    ((mkSel (n / 16 % 16)).get ((mkSel (n / 256 % 16)).get ((mkSel (n / 4096)).get t)))) ((mkSel (n / 256 % 16)).get ((mkSel (n / 4096)).get t))) ((mkSel (n / 4096)).get t)) t)))) =
    (mkSel (m % 16)).get ((mkSel (m / 16 % 16)).get ((mkSel (m / 256 % 16)).get ((mkSel (m / 4096)).get t)))
  by_cases e1 : n / 4096 = m / 4096
  · rw [← e1, sel_same _ h1]
    by_cases e2 : n / 256 % 16 = m / 256 % 16
    · rw [← e2, sel_same _ h2]
      by_cases e3 : n / 16 % 16 = m / 16 % 16
      · rw [← e3, sel_same _ h3, sel_ne _ _ h4 k4 (by omega)]
      · rw [sel_ne _ _ h3 k3 e3]
    · rw [sel_ne _ _ h2 k2 e2]
  · rw [sel_ne _ _ h1 k1 e1]
noncomputable def Hp.nil (n : Nat) : Hp := ⟨n, HH.nil⟩
noncomputable def Hp.get (h : Hp) (i : Nat) : Option Blk := match Nat.ble i 65535 with
  | true => h.m.get i
  | false => none
noncomputable def Hp.put (h : Hp) (i : Nat) (b : Blk) : Hp := ⟨h.n, h.m.set i b⟩
noncomputable def Hp.new (h : Hp) (b : Blk) : Hp := ⟨Nat.add h.n 1, h.m.set h.n b⟩
theorem Hp.nil_get (n i : Nat) : (Hp.nil n).get i = none := by
  unfold Hp.get
  split
  · show (mkSel _).get ((mkSel _).get ((mkSel _).get ((mkSel _).get (full (full (full (full none))))))) = none
    rw [full_get, full_get, full_get, full_get]
  · rfl
theorem Hp.get_put (h : Hp) {i j : Nat} (b : Blk) (hi : i < 65536) : (h.put i b).get j = if j = i then some b else h.get j := by
  unfold Hp.get Hp.put
  by_cases hj : j < 65536
  · have : Nat.ble j 65535 = true := Nat.ble_eq_true_of_le (by omega)
    simp only [this]
    by_cases e : j = i
    · subst e; rw [if_pos rfl]; exact HH.get_same h.m j b hi
    · rw [if_neg e]; exact HH.get_ne h.m i j b hi hj (fun x => e x.symm)
  · have : Nat.ble j 65535 = false := by
      cases hb : Nat.ble j 65535 with
      | false => rfl
      | true => exact absurd (Nat.le_of_ble_eq_true hb) (by omega)
    simp only [this]
    rw [if_neg (by omega)]
theorem Hp.get_new (h : Hp) {j : Nat} (b : Blk) (hi : h.n < 65536) : (h.new b).get j = if j = h.n then some b else h.get j := Hp.get_put h b hi
noncomputable def ob {α β : Type} (x : Option α) (f : α → Option β) : Option β := Option.rec (motive := fun _ => Option β) none f x
theorem ob_some {α β : Type} {x : Option α} {f : α → Option β} {b : β} (h : ob x f = some b) : ∃ a, x = some a ∧ f a = some b := by
  cases x with
  | none => cases h
  | some a => exact ⟨a, rfl, h⟩
noncomputable def nth {α : Type} (l : List α) : Nat → Option α :=
  List.rec (motive := fun _ => Nat → Option α) (fun _ => none) (fun x _ ih n => Nat.casesOn (motive := fun _ => Option α) n (some x) (fun m => ih m)) l
theorem nth_eq {α : Type} : ∀ (l : List α) (n : Nat), nth l n = l[n]?
  | [], n => by cases n <;> rfl
  | x :: l, 0 => rfl
  | x :: l, n + 1 => by
    have := nth_eq l n
    show nth l n = _
    rw [this]
    rfl
/-- vs in place of what stands from n on -/
noncomputable def over {α : Type} (l : List α) : Nat → List α → Option (List α) :=
  List.rec (motive := fun _ => Nat → List α → Option (List α))
    (fun n vs => List.casesOn (motive := fun _ => Option (List α)) vs (Nat.casesOn (motive := fun _ => Option (List α)) n (some []) (fun _ => none)) (fun _ _ => none))
    (fun x l ih n vs => Nat.casesOn (motive := fun _ => Option (List α)) n
      (List.casesOn (motive := fun _ => Option (List α)) vs (some (x :: l)) (fun v vs => Option.rec none (fun r => some (v :: r)) (ih 0 vs)))
      (fun m => Option.rec none (fun r => some (x :: r)) (ih m vs))) l
theorem orec {α β : Type} (x : Option α) (f : α → Option β) : (Option.rec none f x : Option β) = ob x f := by cases x <;> rfl
theorem over_nil0 {α : Type} : over ([] : List α) 0 [] = some [] := rfl
theorem over_nil1 {α : Type} (n : Nat) : over ([] : List α) (n + 1) [] = none := rfl
theorem over_nil2 {α : Type} (n : Nat) (v : α) (vs : List α) : over ([] : List α) n (v :: vs) = none := rfl
theorem over_cons0 {α : Type} (x : α) (l : List α) : over (x :: l) 0 [] = some (x :: l) := rfl
theorem over_cons1 {α : Type} (x v : α) (l vs : List α) : over (x :: l) 0 (v :: vs) = ob (over l 0 vs) fun r => some (v :: r) := orec _ _
theorem over_cons2 {α : Type} (x : α) (l vs : List α) (n : Nat) : over (x :: l) (n + 1) vs = ob (over l n vs) fun r => some (x :: r) := orec _ _
theorem over_spec {α : Type} : ∀ (l : List α) (n : Nat) (vs r : List α), over l n vs = some r → r.length = l.length ∧ n + vs.length ≤ l.length ∧ ∀ i, r[i]? = if n ≤ i ∧ i < n + vs.length then vs[i - n]? else l[i]?
  | [], 0, [], r, h => by rw [over_nil0] at h; cases h; simp
  | [], n, v :: vs, r, h => by rw [over_nil2] at h; cases h
  | [], n + 1, [], r, h => by rw [over_nil1] at h; cases h
  | x :: l, 0, [], r, h => by
    rw [over_cons0] at h; cases h
    exact ⟨rfl, by simp, fun i => by rw [if_neg]; simp⟩
  | x :: l, 0, v :: vs, r, h => by
    rw [over_cons1] at h
    obtain ⟨r', h1, h2⟩ := ob_some h
    cases h2
    obtain ⟨a, b, c⟩ := over_spec l 0 vs r' h1
    refine ⟨by simp [a], by simp; omega, fun i => ?_⟩
    cases i with
    | zero => simp
    | succ i =>
      have := c i
      simp only [List.getElem?_cons_succ, this]
      simp
  | x :: l, n + 1, vs, r, h => by
    rw [over_cons2] at h
    obtain ⟨r', h1, h2⟩ := ob_some h
    cases h2
    obtain ⟨a, b, c⟩ := over_spec l n vs r' h1
    refine ⟨by simp [a], by simp; omega, fun i => ?_⟩
    cases i with
    | zero => simp
    | succ i =>
      have := c i
      simp only [List.getElem?_cons_succ, this]
      by_cases hc : n ≤ i ∧ i < n + vs.length
      · rw [if_pos hc, if_pos (by omega)]; congr 1; omega
      · rw [if_neg hc, if_neg (by omega)]
noncomputable def mapO {α β : Type} (f : α → Option β) (l : List α) : Option (List β) :=
  List.rec (motive := fun _ => Option (List β)) (some []) (fun x _ ih => Option.rec none (fun y => Option.rec none (fun r => some (y :: r)) ih) (f x)) l
theorem mapO_nil {α β : Type} (f : α → Option β) : mapO f [] = some [] := rfl
theorem mapO_cons {α β : Type} (f : α → Option β) (x : α) (l : List α) : mapO f (x :: l) = ob (f x) fun y => ob (mapO f l) fun r => some (y :: r) := by
  show (Option.rec none (fun y => Option.rec none (fun r => some (y :: r)) (mapO f l)) (f x) : Option (List β)) = _
  rw [orec]
  rfl
theorem mapO_spec {α β : Type} {f : α → Option β} : ∀ {l : List α} {r : List β}, mapO f l = some r → r.length = l.length ∧ ∀ (i : Nat) (x : α), l[i]? = some x → ∃ y, r[i]? = some y ∧ f x = some y
  | [], r, h => by rw [mapO_nil] at h; cases h; simp
  | x :: l, r, h => by
    rw [mapO_cons] at h
    obtain ⟨y, h1, h⟩ := ob_some h
    obtain ⟨r', h2, h⟩ := ob_some h
    cases h
    obtain ⟨a, b⟩ := mapO_spec h2
    refine ⟨by simp [a], fun i z hz => ?_⟩
    cases i with
    | zero => simp at hz; subst hz; exact ⟨y, by simp, h1⟩
    | succ i => simp at hz; obtain ⟨u, hu, hf⟩ := b i z hz; exact ⟨u, by simpa using hu, hf⟩
noncomputable def plain : Nat → Value → Bool
  | _, .bool _ | _, .int _ _ | _, .float _ _ | _, .complex _ _ _ | _, .string _ | _, .nilFunc | _, .nilIface | _, .pointer none | _, .slice none _ _ | _, .map none | _, .chan none => true
  | n + 1, .iface _ v => plain n v
  | n + 1, .agg cs | n + 1, .tuple cs => cs.toList.all fun v => plain n v
  | n + 1, .func _ a b => (a.toList.all fun v => plain n v) && (b.toList.all fun v => plain n v)
  | _, _ => false
/-- plain, quickly -/
noncomputable def plainF (v : Value) : Bool := match v with
  | .bool _ | .int _ _ | .float _ _ | .string _ | .nilFunc | .nilIface => true
  | v => plain 20 v
theorem plainF_eq (v : Value) : plainF v = plain 20 v := by
  unfold plainF
  split <;> rfl
noncomputable def unk : Nat := 18446744073709551616
/-- names: the block of each, and how many elements an appended row has room for -/
structure Ren where
  f : Nat → Option Nat
  k : Nat → Nat
instance : CoeFun Ren (fun _ => Nat → Option Nat) := ⟨Ren.f⟩
def Ren.le (φ φ' : Ren) : Prop := ∀ i b, φ i = some b → φ' i = some b ∧ φ'.k i = φ.k i
def CR (q o n c c' : Nat) : Prop := (c = unk ∧ n ≤ c' ∧ (o = 0 → c' = q)) ∨ (c ≠ unk ∧ c' = c)
inductive VR (φ : Ren) : Value → Value → Prop
  | bool (b : Bool) : VR φ (.bool b) (.bool b)
  | int (k : IntKind) (n : Int) : VR φ (.int k n) (.int k n)
  | float (k : FloatKind) (b : Nat) : VR φ (.float k b) (.float k b)
  | complex (k : FloatKind) (a b : Nat) : VR φ (.complex k a b) (.complex k a b)
  | string (s : ByteArray) : VR φ (.string s) (.string s)
  | nilFunc : VR φ .nilFunc .nilFunc
  | nilIface : VR φ .nilIface .nilIface
  | ptr0 : VR φ (.pointer none) (.pointer none)
  | ptr {i o b : Nat} (h : φ i = some b) : VR φ (.pointer (some ⟨i, o, none⟩)) (.pointer (some ⟨b, o, none⟩))
  | sl0 (n c : Nat) : VR φ (.slice none n c) (.slice none n c)
  | sl {i o b n c c' : Nat} (h : φ i = some b) (hc : CR (φ.k i) o n c c') : VR φ (.slice (some ⟨i, o, none⟩) n c) (.slice (some ⟨b, o, none⟩) n c')
  | map0 : VR φ (.map none) (.map none)
  | map {i b : Nat} (h : φ i = some b) : VR φ (.map (some i)) (.map (some b))
  | chan0 : VR φ (.chan none) (.chan none)
  | yld (l : Nat) : VR φ (.chan (some 0)) (.func (.yield l) #[] #[])
  | iface (t : TypeId) {v v' : Value} (h : VR φ v v') : VR φ (.iface t v) (.iface t v')
  | agg {a b : List Value} (hl : a.length = b.length) (h : ∀ (i : Nat) (x y : Value), a[i]? = some x → b[i]? = some y → VR φ x y) : VR φ (.agg ⟨a⟩) (.agg ⟨b⟩)
  | tuple {a b : List Value} (hl : a.length = b.length) (h : ∀ (i : Nat) (x y : Value), a[i]? = some x → b[i]? = some y → VR φ x y) : VR φ (.tuple ⟨a⟩) (.tuple ⟨b⟩)
  | func (fn : Fn) {a b c d : List Value} (hl : a.length = b.length) (h : ∀ (i : Nat) (x y : Value), a[i]? = some x → b[i]? = some y → VR φ x y)
      (kl : c.length = d.length) (k : ∀ (i : Nat) (x y : Value), c[i]? = some x → d[i]? = some y → VR φ x y) : VR φ (.func fn ⟨a⟩ ⟨c⟩) (.func fn ⟨b⟩ ⟨d⟩)
def LR (φ : Ren) (a b : List Value) : Prop := a.length = b.length ∧ ∀ (i : Nat) (x y : Value), a[i]? = some x → b[i]? = some y → VR φ x y
theorem VR.mono {φ φ' : Ren} (hφ : φ.le φ') {v v' : Value} (h : VR φ v v') : VR φ' v v' := by
  induction h with
  | bool b => exact .bool b
  | int k n => exact .int k n
  | float k b => exact .float k b
  | complex k a b => exact .complex k a b
  | string s => exact .string s
  | nilFunc => exact .nilFunc
  | nilIface => exact .nilIface
  | ptr0 => exact .ptr0
  | ptr h => exact .ptr (hφ _ _ h).1
  | sl0 n c => exact .sl0 n c
  | sl h hc => exact .sl (hφ _ _ h).1 ((hφ _ _ h).2 ▸ hc)
  | map0 => exact .map0
  | map h => exact .map (hφ _ _ h).1
  | chan0 => exact .chan0
  | yld l => exact .yld l
  | iface t h ih => exact .iface t ih
  | agg hl h ih => exact .agg hl fun i x y hx hy => ih i x y hx hy
  | tuple hl h ih => exact .tuple hl fun i x y hx hy => ih i x y hx hy
  | func fn hl h kl k ih1 ih2 => exact .func fn hl (fun i x y hx hy => ih1 i x y hx hy) kl (fun i x y hx hy => ih2 i x y hx hy)
theorem LR.mono {φ φ' : Ren} (hφ : φ.le φ') {a b : List Value} (h : LR φ a b) : LR φ' a b := ⟨h.1, fun i x y hx hy => (h.2 i x y hx hy).mono hφ⟩
theorem LR.at {φ : Ren} {a b : List Value} (h : LR φ a b) {i : Nat} {x : Value} (hx : a[i]? = some x) : ∃ y, b[i]? = some y ∧ VR φ x y := by
  have hlt : i < b.length := by rw [← h.1]; exact (List.getElem?_eq_some_iff.1 hx).1
  exact ⟨b[i], List.getElem?_eq_getElem hlt, h.2 i x _ hx (List.getElem?_eq_getElem hlt)⟩
theorem LR.nil {φ : Ren} : LR φ [] [] := ⟨rfl, fun i x y hx => by simp at hx⟩
theorem LR.cons {φ : Ren} {x y : Value} {a b : List Value} (h : VR φ x y) (t : LR φ a b) : LR φ (x :: a) (y :: b) := by
  refine ⟨by simp [t.1], fun i u v hu hv => ?_⟩
  cases i with
  | zero => simp at hu hv; subst hu hv; exact h
  | succ i => simp at hu hv; exact t.2 i u v hu hv
theorem LR.uncons {φ : Ren} {x : Value} {a b : List Value} (h : LR φ (x :: a) b) : ∃ y b', b = y :: b' ∧ VR φ x y ∧ LR φ a b' := by
  cases b with
  | nil => have := h.1; simp at this
  | cons y b' => exact ⟨y, b', rfl, h.2 0 x y rfl rfl, by have := h.1; simpa using this, fun i u v hu hv => h.2 (i + 1) u v (by simpa using hu) (by simpa using hv)⟩
theorem LR.append {φ : Ren} {a b c d : List Value} (h : LR φ a b) (k : LR φ c d) : LR φ (a ++ c) (b ++ d) := by
  refine ⟨by simp [h.1, k.1], fun i x y hx hy => ?_⟩
  by_cases hi : i < a.length
  · rw [List.getElem?_append_left hi] at hx
    rw [List.getElem?_append_left (by have := h.1; omega)] at hy
    exact h.2 i x y hx hy
  · rw [List.getElem?_append_right (by omega)] at hx
    rw [List.getElem?_append_right (by have := h.1; omega), ← h.1] at hy
    exact k.2 _ x y hx hy
theorem LR.take {φ : Ren} {a b : List Value} (h : LR φ a b) (n : Nat) : LR φ (a.take n) (b.take n) := by
  refine ⟨by simp [h.1], fun i x y hx hy => ?_⟩
  rw [List.getElem?_take] at hx hy
  split at hx
  · rename_i hi; rw [if_pos hi] at hy; exact h.2 i x y hx hy
  · cases hx
theorem LR.drop {φ : Ren} {a b : List Value} (h : LR φ a b) (n : Nat) : LR φ (a.drop n) (b.drop n) := by
  refine ⟨by simp [h.1], fun i x y hx hy => ?_⟩
  rw [List.getElem?_drop] at hx hy
  exact h.2 _ x y hx hy
theorem LR.of_mapO {α : Type} {φ : Ren} {f : α → Option Value} {g : α → Value} (hf : ∀ x v, f x = some v → VR φ v (g x)) {l : List α} {r : List Value} (h : mapO f l = some r) : LR φ r (l.map g) := by
  obtain ⟨a, b⟩ := mapO_spec h
  refine ⟨by simp [a], fun i x y hx hy => ?_⟩
  rw [List.getElem?_map] at hy
  cases hz : l[i]? with
  | none => rw [hz] at hy; cases hy
  | some z =>
    rw [hz] at hy
    cases hy
    obtain ⟨u, hu, hfu⟩ := b i z hz
    rw [hx] at hu
    cases hu
    exact hf z x hfu
theorem VR.ofAgg {φ : Ren} {a b : List Value} (h : LR φ a b) : VR φ (.agg ⟨a⟩) (.agg ⟨b⟩) := .agg h.1 h.2
theorem VR.ofTuple {φ : Ren} {a b : List Value} (h : LR φ a b) : VR φ (.tuple ⟨a⟩) (.tuple ⟨b⟩) := .tuple h.1 h.2
theorem all_same {φ : Ren} {n : Nat} (ih : ∀ (v v' : Value), plain n v = true → VR φ v v' → v = v') {a b : List Value} (hp : (a.all fun v => plain n v) = true) (h : LR φ a b) : a = b := by
  induction a generalizing b with
  | nil => cases b with
    | nil => rfl
    | cons y b => have := h.1; simp at this
  | cons x a iha =>
    obtain ⟨y, b', rfl, h1, h2⟩ := h.uncons
    simp at hp
    rw [ih x y hp.1 h1, iha (by simpa using hp.2) h2]
theorem VR.same {φ : Ren} : ∀ (n : Nat) (v v' : Value), plain n v = true → VR φ v v' → v = v' := by
  intro n
  induction n with
  | zero => intro v v' hp h; cases h <;> first | rfl | (simp [plain] at hp)
  | succ n ih =>
    intro v v' hp h
    cases h with
    | iface t h => rw [ih _ _ (by simpa [plain] using hp) h]
    | agg hl h => rw [all_same ih (by simpa [plain] using hp) ⟨hl, h⟩]
    | tuple hl h => rw [all_same ih (by simpa [plain] using hp) ⟨hl, h⟩]
    | func fn hl h kl k =>
      simp only [plain, Bool.and_eq_true] at hp
      rw [all_same ih hp.1 ⟨hl, h⟩, all_same ih hp.2 ⟨kl, k⟩]
    | _ => first | rfl | (simp [plain] at hp)
theorem VR.self {φ : Ren} : ∀ (n : Nat) (v : Value), plain n v = true → VR φ v v := by
  have key : ∀ {n : Nat}, (∀ v, plain n v = true → VR φ v v) → ∀ {a : List Value}, (a.all fun v => plain n v) = true → LR φ a a := by
    intro n ih a hp
    refine ⟨rfl, fun i x y hx hy => ?_⟩
    rw [hx] at hy
    cases hy
    exact ih x (List.all_eq_true.1 hp x (List.mem_of_getElem? hx))
  intro n
  induction n with
  | zero =>
    intro v hp
    unfold plain at hp
    split at hp <;> first | (constructor; done) | (cases hp; done) | (rename_i heq; cases heq)
  | succ n ih =>
    intro v hp
    unfold plain at hp
    split at hp <;> first | (cases hp; done) | (constructor; done) | (rename_i heq; cases heq)
    · exact .iface _ (ih _ hp)
    · exact VR.ofAgg (key ih hp)
    · exact VR.ofTuple (key ih hp)
    · simp only [Bool.and_eq_true] at hp
      exact .func _ rfl (key ih hp.1).2 rfl (key ih hp.2).2
theorem Ren.le_refl (φ : Ren) : φ.le φ := fun _ _ h => ⟨h, rfl⟩
theorem Ren.le_trans {φ φ' φ'' : Ren} (h : φ.le φ') (k : φ'.le φ'') : φ.le φ'' := fun i b hi => ⟨(k i b (h i b hi).1).1, (k i b (h i b hi).1).2.trans (h i b hi).2⟩
end Go.Proofs.YtjkifbkehochoaaGreatDoor.Ev
namespace Go.Proofs.YtjkifbkehochoaaGreatDoor.Ev
def Blk.live : Option Blk → Prop
  | some (.cells _ _ _ _) | some (.obj _) => True
  | _ => False
def Blk.there : Option Blk → Prop
  | some .dead | none => False
  | _ => True
theorem Blk.live_there {b : Option Blk} (h : Blk.live b) : Blk.there b := by
  unfold Blk.live at h
  split at h <;> trivial
def FZ : Option Nat → Nat × Nat → Nat → Prop
  | none, f, _ => f = (0, 0)
  | some k, f, n => ∀ i, k ≤ i → i < n → ¬ (f.1 ≤ i ∧ i < f.2)
def ER (φ : Ren) (a b : MapEntry) : Prop := VR φ a.key b.key ∧ VR φ a.val b.val ∧ a.born = b.born
def OR (φ : Ren) : Obj → Obj → Prop
  | .map es c, .map es' c' => c = c' ∧ es.size = es'.size ∧ ∀ (i : Nat) (x y : MapEntry), es[i]? = some x → es'[i]? = some y → ER φ x y
  | .stringIter s p, .stringIter s' p' => s = s' ∧ p = p'
  | .mapIter none _ _ _, .mapIter none _ _ _ => True
  | .deferred (some []), .deferred (some []) => True
  | .deferred none, .deferred none => True
  | .loop r, .loop r' => r.state = r'.state ∧ r.pending = none ∧ r'.pending = none
  | _, _ => False
def RowR (φ : Ren) (cs : List Value) (c : Array Value) : Prop := ∀ (i : Nat) (x : Value), cs[i]? = some x → ∃ y, c[i]? = some y ∧ VR φ x y
def EX (q : Nat) : Option Nat → Nat → Nat → Prop
  | none, m, n => n = m
  | some s, _, n => n = q * s
def BR (φ : Ren) (i : Nat) : Option Blk → Option Obj → Prop
  | some (.cells cs e ex fz), o => ∃ c f, o = some (.cells c e f) ∧ EX (φ.k i) ex cs.length c.size ∧ RowR φ cs c ∧ FZ fz f c.size
  | some (.ro cs), o => ∃ c e f, o = some (.cells c e f) ∧ ∀ (i : Nat) (x : Value), cs[i]? = some x → c[i]? = some x
  | some (.obj a), o => ∃ b, o = some b ∧ OR φ a b
  | some .dead, _ | none, _ => True
theorem RowR.mono {φ φ' : Ren} (hφ : φ.le φ') {cs : List Value} {c : Array Value} (h : RowR φ cs c) : RowR φ' cs c :=
  fun i x hx => let ⟨y, hy, hr⟩ := h i x hx; ⟨y, hy, hr.mono hφ⟩
theorem OR.mono {φ φ' : Ren} (hφ : φ.le φ') {a b : Obj} (h : OR φ a b) : OR φ' a b := by
  unfold OR at h ⊢
  split at h <;> first | exact h | exact ⟨h.1, h.2.1, fun i x y hx hy => let ⟨u, v, z⟩ := h.2.2 i x y hx hy; ⟨u.mono hφ, v.mono hφ, z⟩⟩ | skip
theorem BR.mono {φ φ' : Ren} (hφ : φ.le φ') {i : Nat} (hk : φ'.k i = φ.k i) {a : Option Blk} {o : Option Obj} (h : BR φ i a o) : BR φ' i a o := by
  unfold BR at h ⊢
  split at h
  · obtain ⟨c, f, h1, h2, h3, h4⟩ := h; exact ⟨c, f, h1, hk ▸ h2, h3.mono hφ, h4⟩
  · obtain ⟨c, e, f, h1, h3⟩ := h; exact ⟨c, e, f, h1, h3⟩
  · obtain ⟨b, h1, h3⟩ := h; exact ⟨b, h1, h3.mono hφ⟩
  · trivial
  · trivial
/-- the rest of the world is as it was -/
structure Same (w w' : World) : Prop where
  os : w'.os = w.os
  tape : w'.tape = w.tape
  output : w'.output = w.output
theorem Same.refl (w : World) : Same w w := ⟨rfl, rfl, rfl⟩
theorem Same.trans {w w' w'' : World} (h : Same w w') (k : Same w' w'') : Same w w'' := ⟨k.os.trans h.os, k.tape.trans h.tape, k.output.trans h.output⟩
theorem Same.setCells (b : Nat) : ∀ (vs : List Value) (o : Nat) (w : World), Same w (w.setCells b o vs)
  | [], _, w => .refl w
  | v :: vs, o, w => by
    have h := Same.setCells b vs (o + 1) (w.setCell ⟨b, o, none⟩ v)
    exact ⟨h.os, h.tape, h.output⟩
structure HR (φ : Ren) (C : Nat → Option Blk) (n : Nat) (w : World) : Prop where
  bnd : n ≤ 65536
  ro : ∀ i cs, C i = some (.ro cs) → i < n ∧ φ i = some i
  lt : ∀ i b, φ i = some b → i < n ∧ b < w.heap.size
  inj : ∀ i j b, φ i = some b → φ j = some b → Blk.live (C i) → Blk.there (C j) → i = j
  row : ∀ i b, φ i = some b → BR φ i (C i) w.heap[b]?
/-- from one state to another: names stay; what no live block names stays as it was; names from m on may be new -/
structure StepM (m : Nat) (φ : Ren) (C : Nat → Option Blk) (w : World) (φ' : Ren) (C' : Nat → Option Blk) (n' : Nat) (w' : World) : Prop where
  hr : HR φ' C' n' w'
  ext : φ.le φ'
  old : ∀ i b, i < m → φ' i = some b → φ i = some b
  le : m ≤ n'
  liv : ∀ i, i < m → Blk.live (C' i) → Blk.live (C i)
  ro : ∀ i cs, C' i = some (.ro cs) → C i = some (.ro cs)
  new : ∀ i b, m ≤ i → φ' i = some b → Blk.live (C' i) → w.heap.size ≤ b ∨ ∃ j, φ j = some b ∧ Blk.live (C j)
  size : w.heap.size ≤ w'.heap.size
  frame : ∀ b, b < w.heap.size → (∀ i, φ i = some b → ¬ Blk.live (C i)) → w'.heap[b]? = w.heap[b]?
  same : Same w w'
abbrev Step (φ : Ren) (C : Nat → Option Blk) (n : Nat) (w : World) (φ' : Ren) (C' : Nat → Option Blk) (n' : Nat) (w' : World) : Prop := StepM n φ C w φ' C' n' w'
theorem Step.refl {φ : Ren} {C : Nat → Option Blk} {n : Nat} {w : World} (h : HR φ C n w) : Step φ C n w φ C n w :=
  ⟨h, φ.le_refl, fun _ _ _ h => h, Nat.le_refl _, fun _ _ h => h, fun _ _ h => h, fun i b hi hb => absurd (h.lt i b hb).1 (by omega), Nat.le_refl _, fun _ _ _ => rfl, .refl w⟩
theorem StepM.trans {m m' : Nat} {φ φ' φ'' : Ren} {C C' C'' : Nat → Option Blk} {n' n'' : Nat} {w w' w'' : World} (h : StepM m φ C w φ' C' n' w') (k : StepM m' φ' C' w' φ'' C'' n'' w'') (hm : m ≤ m') : StepM m φ C w φ'' C'' n'' w'' := by
  have kn := k.le
  have hs := h.size
  have ks := k.size
  have live' : ∀ i b, φ' i = some b → b < w.heap.size → Blk.live (C' i) → ∃ j, φ j = some b ∧ Blk.live (C j) := by
    intro i b hb hlt hl
    by_cases hi : i < m
    · exact ⟨i, h.old i b hi hb, h.liv i hi hl⟩
    · rcases h.new i b (by omega) hb hl with h1 | h1
      · omega
      · exact h1
  refine ⟨k.hr, Ren.le_trans h.ext k.ext, fun i b hi hb => h.old i b hi (k.old i b (by omega) hb), by omega, fun i hi hl => h.liv i hi (k.liv i (by omega) hl), fun i cs hc => h.ro i cs (k.ro i cs hc), fun i b hi hb hl => ?_, by omega, fun b hb hno => ?_, h.same.trans k.same⟩
  · by_cases hi' : i < m'
    · exact h.new i b hi (k.old i b hi' hb) (k.liv i hi' hl)
    · rcases k.new i b (by omega) hb hl with h1 | ⟨j, h1, h2⟩
      · exact .inl (by omega)
      · by_cases hbw : b < w.heap.size
        · exact .inr (live' j b h1 hbw h2)
        · exact .inl (by omega)
  · rw [k.frame b (by omega) fun i hi hl => ?_, h.frame b hb hno]
    obtain ⟨j, h1, h2⟩ := live' i b hi hb hl
    exact hno j h1 h2
theorem Step.trans {φ φ' φ'' : Ren} {C C' C'' : Nat → Option Blk} {n n' n'' : Nat} {w w' w'' : World} (h : Step φ C n w φ' C' n' w') (k : Step φ' C' n' w' φ'' C'' n'' w'') : Step φ C n w φ'' C'' n'' w'' := StepM.trans h k h.le
end Go.Proofs.YtjkifbkehochoaaGreatDoor.Ev
namespace Go.Proofs.YtjkifbkehochoaaGreatDoor.Ev
section
variable (P : Program)
noncomputable def aggB (t : TypeId) : Option Bool := match P.underlying t with
  | some (.struct _) | some (.array _ _) => some true
  | some _ => some false
  | none => none
noncomputable def sizeB (t : TypeId) : Option Nat := match P.info? t with
  | some i => some i.size
  | none => none
noncomputable def zeroB (t : TypeId) : Option Value := match P.info? t with
  | some i => match i.zero with
    | some z => match plainF z with
      | true => some z
      | false => none
    | none => none
  | none => none
noncomputable def partV (t : TypeId) (cs : List Value) (off : Nat) : Option Value :=
  ob (aggB P t) fun b => match b with
    | true => ob (sizeB P t) fun s => some (.agg ⟨(cs.drop off).take s⟩)
    | false => nth cs off
end
noncomputable def rowAt (C : Nat → Option Blk) (id off n : Nat) : Option (List Value) :=
  match n with
  | 0 => some []
  | n => match C id with
    | some (.cells cs _ _ _) => let l := (cs.drop off).take n
      match Nat.beq l.length n with
      | true => some l
      | false => none
    | some (.ro cs) => let l := (cs.drop off).take n
      match Nat.beq l.length n && l.all plainF with
      | true => some l
      | false => none
    | _ => none
noncomputable def loadV (P : Program) (C : Nat → Option Blk) (t : TypeId) (x : Value) : Option Value := match x with
  | .pointer (some ⟨id, off, none⟩) => ob (aggB P t) fun b => match b with
    | true => ob (sizeB P t) fun s => ob (rowAt C id off s) fun l => some (.agg ⟨l⟩)
    | false => ob (rowAt C id off 1) fun l => nth l 0
  | _ => none
theorem run_underlying' {P : Program} {t : TypeId} {d : TypeDesc} (h : P.underlying t = some d) (w : World) : (underlying t).run P w = .ok d w := by
  unfold underlying
  simp [h]
theorem run_typeInfo' {P : Program} {t : TypeId} {i : TypeInfo} (h : P.info? t = some i) (w : World) : (typeInfo t).run P w = .ok i w := by
  unfold typeInfo
  simp [h]
theorem aggB_run {P : Program} {t : TypeId} {b : Bool} (h : aggB P t = some b) (w : World) : (isAgg t).run P w = .ok b w := by
  unfold aggB at h
  cases hu : P.underlying t with
  | none => rw [hu] at h; cases h
  | some d =>
    rw [hu] at h
    unfold isAgg
    cases d <;> (cases h; simp [run_underlying' hu])
theorem sizeB_run {P : Program} {t : TypeId} {s : Nat} (h : sizeB P t = some s) (w : World) : (sizeOf t).run P w = .ok s w := by
  unfold sizeB at h
  cases hu : P.info? t with
  | none => rw [hu] at h; cases h
  | some i =>
    rw [hu] at h
    cases h
    unfold sizeOf
    simp [run_typeInfo' hu]
theorem zeroB_run {P : Program} {t : TypeId} {z : Value} (h : zeroB P t = some z) (w : World) : (zeroValue t).run P w = .ok z w ∧ plain 20 z = true := by
  unfold zeroB at h
  cases hu : P.info? t with
  | none => rw [hu] at h; cases h
  | some i =>
    rw [hu] at h
    simp only at h
    cases hz : i.zero with
    | none => rw [hz] at h; cases h
    | some z' =>
      rw [hz] at h
      simp only at h
      split at h
      · rename_i hp
        rw [plainF_eq] at hp
        cases h
        unfold zeroValue
        simp [run_typeInfo' hu, hz, hp]
      · cases h
theorem list_at {φ : Ren} {cs : List Value} {b : Array Value} (h : LR φ cs b.toList) {i : Nat} {x : Value} (hx : nth cs i = some x) : ∃ y, b[i]? = some y ∧ VR φ x y := by
  rw [nth_eq] at hx
  obtain ⟨y, hy, hr⟩ := h.at hx
  exact ⟨y, by simpa using hy, hr⟩
theorem partV_run {P : Program} {φ : Ren} {t : TypeId} {cs : List Value} {b : Array Value} {off : Nat} {v : Value} (hl : LR φ cs b.toList) (h : partV P t cs off = some v) : ∃ v', VR φ v v' ∧ ∀ w, (part t b off).run P w = .ok v' w := by
  unfold partV at h
  obtain ⟨g, hg, h⟩ := ob_some h
  unfold part
  cases g with
  | true =>
    simp only at h
    obtain ⟨s, hs, h⟩ := ob_some h
    cases h
    refine ⟨.agg (b.extract off (off + s)), ?_, fun w => by simp [aggB_run hg, sizeB_run hs]⟩
    have : b.extract off (off + s) = ⟨(b.toList.drop off).take s⟩ := by
      apply Array.ext'
      simp [List.extract_eq_take_drop]
    rw [this]
    exact VR.ofAgg ((hl.drop off).take s)
  | false =>
    simp only at h
    obtain ⟨y, hy, hr⟩ := list_at hl h
    exact ⟨y, hr, fun w => by simp [aggB_run hg, hy]⟩
theorem add_none (b o i : Nat) : (⟨b, o, none⟩ : Addr).add i = ⟨b, o + i, none⟩ := by unfold Addr.add; split <;> simp_all
theorem rowAt_run {P : Program} {φ : Ren} {C : Nat → Option Blk} {n : Nat} {w : World} (hr : HR φ C n w) {id b off k : Nat} {l : List Value} (hb : φ.f id = some b) (h : rowAt C id off k = some l) :
    ∃ l', l.length = k ∧ LR φ l l' ∧ (∀ (j : Nat) (v : Value), l'[j]? = some v → w.cell? ⟨b, off + j, none⟩ = some v) ∧ (loadCells ⟨b, off, none⟩ k).run P w = .ok l'.toArray w := by
  have key : ∀ (cs : List Value) (c : Array Value) (e : TypeId) (f : Nat × Nat), w.heap[b]? = some (.cells c e f) → (∀ (j : Nat) (x : Value), j < k → cs[off + j]? = some x → ∃ y, c[off + j]? = some y ∧ VR φ x y) → ((cs.drop off).take k).length = k → l = (cs.drop off).take k →
      ∃ l', l.length = k ∧ LR φ l l' ∧ (∀ (j : Nat) (v : Value), l'[j]? = some v → w.cell? ⟨b, off + j, none⟩ = some v) ∧ (loadCells ⟨b, off, none⟩ k).run P w = .ok l'.toArray w := by
    intro cs c e f hc hR hlen hl
    have hl2 : off + k ≤ cs.length ∨ k = 0 := by simp at hlen; omega
    have hat : ∀ j, j < k → ∃ y, c[off + j]? = some y ∧ VR φ (cs[off + j]?.getD undef) y := by
      intro j hj
      have hlt : off + j < cs.length := by omega
      obtain ⟨y, hy, hv⟩ := hR j cs[off + j] hj (List.getElem?_eq_getElem hlt)
      exact ⟨y, hy, by rw [List.getElem?_eq_getElem hlt]; exact hv⟩
    have hsz : k = 0 ∨ off + k ≤ c.size := by
      rcases Nat.eq_zero_or_pos k with h0 | h0
      · exact .inl h0
      · obtain ⟨y, hy, -⟩ := hat (k - 1) (by omega)
        have := (Array.getElem?_eq_some_iff.1 hy).1
        exact .inr (by omega)
    have hcell : ∀ (j : Nat) (v : Value), ((c.toList.drop off).take k)[j]? = some v → w.cell? ⟨b, off + j, none⟩ = some v := by
      intro j v hv
      rw [List.getElem?_take] at hv
      split at hv
      · rw [List.getElem?_drop] at hv
        simp [World.cell?, hc]
        simpa using hv
      · cases hv
    have hL : LR φ l ((c.toList.drop off).take k) := by
      subst hl
      refine ⟨by simp; omega, fun j x y hx hy => ?_⟩
      rw [List.getElem?_take] at hx hy
      split at hx
      · rename_i hj
        rw [if_pos hj] at hy
        rw [List.getElem?_drop] at hx hy
        obtain ⟨z, hz, hv⟩ := hat j hj
        rw [hx] at hv
        have : c[off + j]? = some y := by simpa using hy
        rw [this] at hz
        cases hz
        exact hv
      · cases hx
    refine ⟨(c.toList.drop off).take k, by rw [hl, hlen], hL, hcell, ?_⟩
    have := run_loadCells_list (P := P) w ⟨b, off, none⟩ ((c.toList.drop off).take k) (fun j v hv => by rw [add_none]; exact hcell j v hv)
    have hk : ((c.toList.drop off).take k).length = k := by rw [← hL.1, hl, hlen]
    rw [hk] at this
    exact this
  have hrow := hr.row id b hb
  unfold rowAt at h
  split at h
  · cases h
    exact ⟨[], rfl, LR.nil, fun j v hv => by simp at hv, rfl⟩
  · rename_i hk
    split at h
    · rename_i cs e ex fz hC
      simp only at h
      split at h
      · rename_i hbeq
        cases h
        rw [hC] at hrow
        obtain ⟨c, f, h1, h2, h3, h4⟩ := hrow
        exact key cs c e f h1 (fun j x _ hx => h3 (off + j) x hx) (Nat.eq_of_beq_eq_true hbeq) rfl
      · cases h
    · rename_i cs hC
      simp only at h
      split at h
      · rename_i hbeq
        cases h
        rw [hC] at hrow
        obtain ⟨c, e, f, h1, h3⟩ := hrow
        obtain ⟨hbeq, hpl⟩ := Bool.and_eq_true_iff.1 hbeq
        refine key cs c e f h1 (fun j x hj hx => ⟨x, h3 _ x hx, VR.self 20 x ?_⟩) (Nat.eq_of_beq_eq_true hbeq) rfl
        rw [← plainF_eq]
        refine List.all_eq_true.1 hpl x (List.mem_of_getElem? (i := j) ?_)
        rw [List.getElem?_take, if_pos hj, List.getElem?_drop]
        exact hx
      · cases h
    · cases h
theorem loadV_run {P : Program} {φ : Ren} {C : Nat → Option Blk} {n : Nat} {w : World} (hr : HR φ C n w) {t : TypeId} {x x' v : Value} (hx : VR φ x x') (h : loadV P C t x = some v) :
    ∃ a, x' = .pointer (some a) ∧ ∃ v', VR φ v v' ∧ (loadVar t a).run P w = .ok v' w := by
  unfold loadV at h
  split at h
  · rename_i id off
    cases hx with
    | ptr hb =>
      rename_i b
      refine ⟨_, rfl, ?_⟩
      obtain ⟨g, hg, h⟩ := ob_some h
      unfold loadVar
      cases g with
      | true =>
        simp only at h
        obtain ⟨s, hs, h⟩ := ob_some h
        obtain ⟨l, hl, h⟩ := ob_some h
        cases h
        obtain ⟨l', h1, h2, h3, h4⟩ := rowAt_run (P := P) hr hb hl
        exact ⟨.agg l'.toArray, VR.ofAgg h2, by simp [aggB_run hg, sizeB_run hs, h4]⟩
      | false =>
        simp only at h
        obtain ⟨l, hl, h⟩ := ob_some h
        obtain ⟨l', h1, h2, h3, h4⟩ := rowAt_run (P := P) hr hb hl
        rw [nth_eq] at h
        obtain ⟨y, hy, hv⟩ := h2.at h
        have hc := h3 0 y hy
        exact ⟨y, hv, by simp [aggB_run hg]; rw [show (⟨b, off, none⟩ : Addr) = ⟨b, off + 0, none⟩ by rfl, hc]⟩
  · cases h
end Go.Proofs.YtjkifbkehochoaaGreatDoor.Ev
namespace Go.Proofs.YtjkifbkehochoaaGreatDoor.Ev
noncomputable def pureRun {α : Type} (P : Program) : Sem α → Option α
  | .pure a => some a
  | .program k => pureRun P (k P)
  | .mark _ k => pureRun P k
  | .choose q k => if q.forced then pureRun P (k 0) else none
  | _ => none
theorem pureRun_run {α : Type} {P : Program} {s : Sem α} {a : α} (h : pureRun P s = some a) (w : World) : s.run P w = .ok a w := by
  induction s with
  | pure b => simp [pureRun] at h; subst h; rfl
  | program k ih => exact ih P h
  | mark m k ih => exact ih h
  | choose q k ih =>
    simp only [pureRun] at h
    split at h
    · rename_i hq
      simp only [Sem.run, hq, if_true]
      exact ih 0 h
    · cases h
  | _ => simp [pureRun] at h
noncomputable def plainAll (l : List Value) : Bool := l.all fun v => plain 20 v
theorem LR.same {φ : Ren} {a b : List Value} (hp : plainAll a = true) (h : LR φ a b) : a = b := all_same (VR.same 20) hp h
/-- slices and strings cut -/
noncomputable def boundsOf (x : Value) (y : Nat) : Option Nat := match x with
  | .int _ i => if 0 ≤ i ∧ i ≤ (y : Int) then some i.toNat else none
  | _ => none
noncomputable def optB (x : Option Value) (y d : Nat) : Option Nat := match x with
  | some v => boundsOf v y
  | none => some d
noncomputable def capOf (mx : Option Value) (m cap : Nat) : Nat := match mx with
  | some _ => m
  | none => cap
noncomputable def okB (mx hi : Option Value) : Bool := match mx, hi with
  | some _, none => false
  | _, _ => true
inductive VO (φ : Ren) : Option Value → Option Value → Prop
  | none : VO φ none none
  | some {v v' : Value} (h : VR φ v v') : VO φ (some v) (some v')
theorem boundsOf_run {P : Program} {φ : Ren} {x x' : Value} {y r : Nat} (hx : VR φ x x') (h : boundsOf x y = some r) (y' : Nat) (hy : y ≤ y') (code : BoundsCode) (w : World) : (Instr.sliceBound x' y' code).run P w = .ok r w ∧ r ≤ y := by
  unfold boundsOf at h
  split at h
  · cases hx
    split at h
    · rename_i hi
      cases h
      refine ⟨?_, by omega⟩
      unfold Instr.sliceBound
      simp only [asIntOf, Sem.run_bind, Sem.run_pure, Result.andThen_ok]
      rw [if_pos (by omega)]
      rfl
    · cases h
  · cases h
noncomputable def sliceV (P : Program) (t : TypeId) (x : Value) (lo hi mx : Option Value) : Option Value :=
  match P.underlying t, x with
  | some .string, .string s => match mx with
    | some _ => none
    | none => ob (optB hi s.size s.size) fun h => ob (optB lo h 0) fun l => some (.string ⟨⟨(s.data.toList.drop l).take (h - l)⟩⟩)
  | some (.slice e), .slice a len cap => match a, Nat.beq cap unk with
    | none, true => none
    | some _, true => match mx with
      | some _ => ob (optB mx len len) fun m => ob (optB hi m len) fun h => ob (optB lo h 0) fun l => ob (sizeB P e) fun s =>
        match okB mx hi && Nat.ble (len + 1) unk with
        | false => none
        | true => match Nat.beq m l with
          | true => some (.slice a (h - l) (m - l))
          | false => some (.slice (a.map (·.add (l * s))) (h - l) (m - l))
      | none => ob (optB hi len len) fun h => ob (optB lo h 0) fun l => ob (sizeB P e) fun s =>
        match Nat.beq l 0 with
        | true => some (.slice a h unk)
        | false => match Nat.ble (l + 1) len && Nat.ble 1 s with
          | true => some (.slice (a.map (·.add (l * s))) (h - l) unk)
          | false => none
    | a, false => ob (optB mx cap cap) fun m => ob (optB hi (capOf mx m cap) len) fun h => ob (optB lo h 0) fun l => ob (sizeB P e) fun s =>
      match okB mx hi && Nat.ble (cap + 1) unk with
      | false => none
      | true => match Nat.beq m l with
        | true => some (.slice a (h - l) (m - l))
        | false => some (.slice (a.map (·.add (l * s))) (h - l) (m - l))
  | some (.array n e), .pointer (some a) =>
    ob (optB mx n n) fun m => ob (optB hi (capOf mx m n) n) fun h => ob (optB lo h 0) fun l => ob (sizeB P e) fun s =>
      match okB mx hi && Nat.ble (n + 1) unk with
      | false => none
      | true => match Nat.beq m l with
        | true => some (.slice (some a) (h - l) (m - l))
        | false => some (.slice (some (a.add (l * s))) (h - l) (m - l))
  | _, _ => none
theorem extract_bytes (s : ByteArray) (l h : Nat) : s.extract l h = ⟨⟨(s.data.toList.drop l).take (h - l)⟩⟩ := by
  apply ByteArray.ext
  apply Array.ext'
  simp [ByteArray.data_extract, List.extract_eq_take_drop]
theorem sliceBounds_run {P : Program} {φ : Ren} {lo hi mx lo' hi' mx' : Option Value} (hlo : VO φ lo lo') (hhi : VO φ hi hi') (hmx : VO φ mx mx') {len cap cap' m h l : Nat}
    (hm : optB mx cap cap = some m) (hh : optB hi (capOf mx m cap) len = some h) (hl : optB lo h 0 = some l) (hok : okB mx hi = true)
    (hc : cap ≤ cap') (isS : Bool) (w : World) :
    (Instr.sliceBounds isS len cap' lo' hi' mx').run P w = .ok (l, h, capOf mx m cap') w ∧ l ≤ h ∧ (len ≤ cap → h ≤ cap) ∧ m ≤ cap ∧ (mx = none → m = cap) := by
  unfold Instr.sliceBounds
  cases hmx with
  | none =>
    cases hm
    simp only [capOf] at hh ⊢
    have hcc : cap ≤ cap' := hc
    cases hhi with
    | none =>
      cases hh
      cases hlo with
      | none => cases hl; simp
      | some hv =>
        obtain ⟨h1, h2⟩ := boundsOf_run (P := P) hv hl len (Nat.le_refl _) .sliceB w
        simp [h1]; omega
    | some hv =>
      obtain ⟨h1, h2⟩ := boundsOf_run (P := P) hv hh cap' hcc (if isS = true then .sliceAcap else .sliceAlen) w
      cases hlo with
      | none => cases hl; simp [h1]; omega
      | some hv2 =>
        obtain ⟨h3, h4⟩ := boundsOf_run (P := P) hv2 hl h (Nat.le_refl _) .sliceB w
        simp [h1, h3]; omega
  | some hv0 =>
    simp only [capOf] at hh ⊢
    · obtain ⟨h5, h6⟩ := boundsOf_run (P := P) hv0 hm cap' hc (if isS = true then .slice3Acap else .slice3Alen) w
      cases hhi with
      | none => cases hok
      | some hv =>
        obtain ⟨h1, h2⟩ := boundsOf_run (P := P) hv hh m (Nat.le_refl _) .slice3B w
        cases hlo with
        | none => cases hl; simp [h1, h5]; omega
        | some hv2 =>
          obtain ⟨h3, h4⟩ := boundsOf_run (P := P) hv2 hl h (Nat.le_refl _) .slice3C w
          simp [h1, h3, h5]; omega
theorem CR.of_known {q o n c c' : Nat} (h : CR q o n c c') (hk : Nat.beq c unk = false) : c' = c := by
  rcases h with ⟨h, -⟩ | ⟨-, h⟩
  · rw [h, Nat.beq_refl] at hk; cases hk
  · exact h
theorem CR.of_unk {q o n c c' : Nat} (h : CR q o n c c') (hk : Nat.beq c unk = true) : c = unk ∧ n ≤ c' ∧ (o = 0 → c' = q) := by
  rcases h with h | ⟨h, -⟩
  · exact h
  · exact absurd (Nat.eq_of_beq_eq_true hk) h
theorem CR.known {q o n c : Nat} (hk : c < unk) : CR q o n c c := .inr ⟨by omega, rfl⟩
theorem sliceV_run {P : Program} {φ : Ren} {t : TypeId} {x x' v : Value} {lo hi mx lo' hi' mx' : Option Value} (hx : VR φ x x') (hlo : VO φ lo lo') (hhi : VO φ hi hi') (hmx : VO φ mx mx')
    (h : sliceV P t x lo hi mx = some v) : ∃ v', VR φ v v' ∧ ∀ w, (Instr.sliceAt t x' lo' hi' mx').run P w = .ok v' w := by
  unfold sliceV at h
  split at h
  · rename_i s hu
    cases hx
    split at h
    · cases h
    · cases hmx
      replace h := ob_some h
      obtain ⟨h1, e1, h⟩ := h
      replace h := ob_some h
      obtain ⟨l1, e2, h⟩ := h
      cases h
      refine ⟨_, .string _, fun w => ?_⟩
      have := (sliceBounds_run (P := P) hlo hhi .none (cap := s.size) (cap' := s.size) rfl e1 e2 rfl (Nat.le_refl _) false w).1
      simp only [Instr.sliceAt, Instr.slice, Sem.run_bind, run_underlying' hu, Result.andThen_ok, this, extract_bytes]
      simp [this, extract_bytes]
  · rename_i e a len cap hu
    have hat : ∀ (w : World), (Instr.sliceAt t x' lo' hi' mx').run P w = (Instr.slice t x' lo' hi' mx').run P w := fun w => by
      simp [Instr.sliceAt, run_underlying' hu]
    split at h
    · cases h
    · rename_i a hcap
      split at h
      · rename_i mv
        replace h := ob_some h
        obtain ⟨m, e0, h⟩ := h
        replace h := ob_some h
        obtain ⟨h1, e1, h⟩ := h
        replace h := ob_some h
        obtain ⟨l1, e2, h⟩ := h
        replace h := ob_some h
        obtain ⟨s, hs, h⟩ := h
        split at h
        · cases h
        rename_i hok0
        simp only [Bool.and_eq_true] at hok0
        obtain ⟨hok, hcu0⟩ := hok0
        have hcu := Nat.le_of_ble_eq_true hcu0
        cases hx with
        | @sl i o b _ _ cap' hb hc =>
          obtain ⟨-, hle, -⟩ := hc.of_unk hcap
          have key := fun w => sliceBounds_run (P := P) hlo hhi hmx (cap := len) (cap' := cap') e0 e1 e2 hok hle true w
          have hm : capOf mx' m cap' = m := by cases hmx with | some _ => rfl
          have hm : capOf (some mv) m cap' = m := rfl
          have hmc := (key default).2.2.2.1
          refine ⟨.slice (some (if m = l1 then ⟨b, o, none⟩ else (⟨b, o, none⟩ : Addr).add (l1 * s))) (h1 - l1) (m - l1), ?_, fun w => (hat w).trans ?_⟩
          · split at h
            · rename_i hbq
              cases h
              rw [if_pos (Nat.eq_of_beq_eq_true hbq)]
              exact .sl hb (.inr ⟨by omega, rfl⟩)
            · rename_i hbq
              cases h
              rw [if_neg (fun he => by rw [he, Nat.beq_refl] at hbq; cases hbq), add_none]
              simp only [Option.map_some, add_none]
              exact .sl hb (.inr ⟨by omega, rfl⟩)
          · simp only [Instr.slice, Sem.run_bind, run_underlying' hu, Result.andThen_ok, (key w).1, hm, sizeB_run hs, Sem.run_pure]
            split <;> simp_all
      · cases hmx
        replace h := ob_some h
        obtain ⟨h1, e1, h⟩ := h
        replace h := ob_some h
        obtain ⟨l1, e2, h⟩ := h
        replace h := ob_some h
        obtain ⟨s, hs, h⟩ := h
        cases hx with
        | @sl i o b _ _ cap' hb hc =>
          obtain ⟨hcu, hle, hcq⟩ := hc.of_unk hcap
          have key := fun w => sliceBounds_run (P := P) hlo hhi .none (cap := len) (cap' := cap') rfl e1 e2 rfl hle true w
          have kb := (key default).2
          have hrun : ∀ w, (Instr.slice t (.slice (some ⟨b, o, none⟩) len cap') lo' hi' none).run P w = .ok (.slice (some (if cap' = l1 then ⟨b, o, none⟩ else (⟨b, o, none⟩ : Addr).add (l1 * s))) (h1 - l1) (cap' - l1)) w := fun w => by
            simp only [Instr.slice, Sem.run_bind, run_underlying' hu, Result.andThen_ok, (key w).1, sizeB_run hs, capOf, Sem.run_pure]
            split <;> simp_all
          split at h
          · rename_i hl
            cases h
            have hl := Nat.eq_of_beq_eq_true hl
            subst hl
            refine ⟨_, ?_, fun w => (hat w).trans (hrun w)⟩
            have e : (if cap' = 0 then (⟨b, o, none⟩ : Addr) else (⟨b, o, none⟩ : Addr).add (0 * s)) = ⟨b, o, none⟩ := by
              rw [add_none]; split <;> simp
            rw [e]
            exact .sl hb (.inl ⟨rfl, by omega, hcq⟩)
          · rename_i hl0
            split at h
            · rename_i hlt
              cases h
              simp only [Bool.and_eq_true] at hlt
              have hs1 := Nat.le_of_ble_eq_true hlt.2
              have hl1 : 1 ≤ l1 := by
                rcases Nat.eq_zero_or_pos l1 with h0 | h0
                · subst h0; cases hl0
                · exact h0
              have hmul : 1 ≤ l1 * s := Nat.mul_pos hl1 hs1
              have hlt := Nat.le_of_ble_eq_true hlt.1
              refine ⟨_, ?_, fun w => (hat w).trans (hrun w)⟩
              rw [if_neg (by omega), add_none]
              simp only [Option.map_some, add_none]
              exact .sl hb (.inl ⟨rfl, by omega, fun h0 => by omega⟩)
            · cases h
    · rename_i a hcap
      replace h := ob_some h
      obtain ⟨m, e0, h⟩ := h
      replace h := ob_some h
      obtain ⟨h1, e1, h⟩ := h
      replace h := ob_some h
      obtain ⟨l1, e2, h⟩ := h
      replace h := ob_some h
      obtain ⟨s, hs, h⟩ := h
      split at h
      · cases h
      rename_i hok0
      simp only [Bool.and_eq_true] at hok0
      obtain ⟨hok, hcu0⟩ := hok0
      have hcu := Nat.le_of_ble_eq_true hcu0
      cases hx with
      | sl0 =>
        have key := fun w => sliceBounds_run (P := P) hlo hhi hmx (cap := cap) (cap' := cap) e0 e1 e2 hok (Nat.le_refl _) true w
        have hm : capOf mx m cap = m := by
          cases mx with
          | none => exact ((key default).2.2.2.2 rfl).symm
          | some q => rfl
        refine ⟨.slice none (h1 - l1) (m - l1), ?_, fun w => (hat w).trans ?_⟩
        · split at h <;> (cases h; exact .sl0 _ _)
        · simp [Instr.slice, run_underlying' hu, (key w).1, sizeB_run hs, hm]
      | @sl i o b _ _ cap' hb hc =>
        have hce := hc.of_known hcap
        subst hce
        have key := fun w => sliceBounds_run (P := P) hlo hhi hmx (cap := cap') (cap' := cap') e0 e1 e2 hok (Nat.le_refl _) true w
        have hm : capOf mx m cap' = m := by
          cases mx with
          | none => exact ((key default).2.2.2.2 rfl).symm
          | some q => rfl
        have hmc := (key default).2.2.2.1
        refine ⟨.slice (some (if m = l1 then ⟨b, o, none⟩ else (⟨b, o, none⟩ : Addr).add (l1 * s))) (h1 - l1) (m - l1), ?_, fun w => (hat w).trans ?_⟩
        · split at h
          · rename_i hbq
            cases h
            rw [if_pos (Nat.eq_of_beq_eq_true hbq)]
            exact .sl hb (.inr ⟨by omega, rfl⟩)
          · rename_i hbq
            cases h
            rw [if_neg (fun he => by rw [he, Nat.beq_refl] at hbq; cases hbq), add_none]
            simp only [Option.map_some, add_none]
            exact .sl hb (.inr ⟨by omega, rfl⟩)
        · simp only [Instr.slice, Sem.run_bind, run_underlying' hu, Result.andThen_ok, (key w).1, hm, sizeB_run hs, Sem.run_pure]
          split <;> simp_all
  · rename_i n e a hu
    replace h := ob_some h
    obtain ⟨m, e0, h⟩ := h
    replace h := ob_some h
    obtain ⟨h1, e1, h⟩ := h
    replace h := ob_some h
    obtain ⟨l1, e2, h⟩ := h
    replace h := ob_some h
    obtain ⟨s, hs, h⟩ := h
    split at h
    · cases h
    rename_i hok0
    simp only [Bool.and_eq_true] at hok0
    obtain ⟨hok, hcu0⟩ := hok0
    have hcu := Nat.le_of_ble_eq_true hcu0
    cases hx with
    | @ptr i o b hb =>
      have key := fun w => sliceBounds_run (P := P) hlo hhi hmx (cap := n) (cap' := n) e0 e1 e2 hok (Nat.le_refl _) false w
      have hm : capOf mx m n = m := by
        cases mx with
        | none => exact ((key default).2.2.2.2 rfl).symm
        | some q => rfl
      have hmc := (key default).2.2.2.1
      refine ⟨.slice (some (if m = l1 then ⟨b, o, none⟩ else (⟨b, o, none⟩ : Addr).add (l1 * s))) (h1 - l1) (m - l1), ?_, fun w => ?_⟩
      · split at h
        · rename_i hbq
          cases h
          rw [if_pos (Nat.eq_of_beq_eq_true hbq)]
          exact .sl hb (.inr ⟨by omega, rfl⟩)
        · rename_i hbq
          cases h
          rw [if_neg (fun he => by rw [he, Nat.beq_refl] at hbq; cases hbq), add_none, add_none]
          exact .sl hb (.inr ⟨by omega, rfl⟩)
      · simp only [Instr.sliceAt, Instr.sureAddr, Sem.run_bind, run_underlying' hu, Result.andThen_ok, Sem.run_pure, (key w).1, hm, sizeB_run hs]
  · cases h
end Go.Proofs.YtjkifbkehochoaaGreatDoor.Ev

set_option linter.unusedSimpArgs false
set_option linter.unusedVariables false
namespace Go.Proofs.YtjkifbkehochoaaGreatDoor.Ev
noncomputable def cellsV (v : Value) : List Value := match v with
  | .agg cs => cs.toList
  | v => [v]
theorem cellsV_eq (v : Value) : cellsV v = v.cells.toList := by cases v <;> rfl
theorem VR.cells {φ : Ren} {v v' : Value} (h : VR φ v v') : LR φ (cellsV v) v'.cells.toList := by
  cases h with
  | agg hl h => exact ⟨hl, h⟩
  | bool b => exact LR.cons (.bool b) LR.nil
  | int k n => exact LR.cons (.int k n) LR.nil
  | float k b => exact LR.cons (.float k b) LR.nil
  | complex k a b => exact LR.cons (.complex k a b) LR.nil
  | string s => exact LR.cons (.string s) LR.nil
  | nilFunc => exact LR.cons .nilFunc LR.nil
  | nilIface => exact LR.cons .nilIface LR.nil
  | ptr0 => exact LR.cons .ptr0 LR.nil
  | ptr h => exact LR.cons (.ptr h) LR.nil
  | sl0 n c => exact LR.cons (.sl0 n c) LR.nil
  | sl h hc => exact LR.cons (.sl h hc) LR.nil
  | map0 => exact LR.cons .map0 LR.nil
  | map h => exact LR.cons (.map h) LR.nil
  | chan0 => exact LR.cons .chan0 LR.nil
  | yld l => exact LR.cons (.yld l) LR.nil
  | iface t h => exact LR.cons (.iface t h) LR.nil
  | tuple hl h => exact LR.cons (.tuple hl h) LR.nil
  | func fn hl h kl k => exact LR.cons (.func fn hl h kl k) LR.nil
theorem foldl_set (off : Nat) : ∀ (vs : List Value) (k : Nat) (cells : Array Value), off + k + vs.length ≤ cells.size →
    ((vs.zipIdx k).foldl (fun cs p => cs.setIfInBounds (off + p.2) p.1) cells).size = cells.size ∧
    ∀ i, ((vs.zipIdx k).foldl (fun cs p => cs.setIfInBounds (off + p.2) p.1) cells)[i]? = if off + k ≤ i ∧ i < off + k + vs.length then vs[i - (off + k)]? else cells[i]?
  | [], k, cells, h => by
    simp
    intro i h1 h2
    omega
  | v :: vs, k, cells, h => by
    simp only [List.zipIdx_cons, List.foldl_cons]
    obtain ⟨h1, h2⟩ := foldl_set off vs (k + 1) (cells.setIfInBounds (off + k) v) (by rw [Array.size_setIfInBounds]; simp only [List.length_cons] at h; omega)
    refine ⟨by rw [h1]; simp, fun i => ?_⟩
    rw [h2 i]
    simp only [List.length_cons] at h ⊢
    by_cases hi : i = off + k
    · subst hi
      rw [if_neg (by omega), if_pos (by omega), Nat.sub_self, Array.getElem?_setIfInBounds_self_of_lt (by omega)]
      rfl
    · by_cases hc : off + (k + 1) ≤ i ∧ i < off + (k + 1) + vs.length
      · rw [if_pos hc, if_pos (by omega), show i - (off + k) = (i - (off + (k + 1))) + 1 by omega]
        simp
      · rw [if_neg hc, if_neg (by omega)]
        rw [Array.getElem?_setIfInBounds_ne (by omega)]
noncomputable def fillV (place : Nat → Option (Nat × Nat)) : List Value → List (Nat × Value) → Option (List Value)
  | cells, [] => some cells
  | cells, (i, v) :: rest => ob (place i) fun p => match Nat.beq (cellsV v).length p.2 with
    | true => ob (over cells p.1 (cellsV v)) fun r => fillV place r rest
    | false => none
def PR (φ : Ren) (a b : List (Nat × Value)) : Prop := a.length = b.length ∧ ∀ (i : Nat) (x y : Nat × Value), a[i]? = some x → b[i]? = some y → x.1 = y.1 ∧ VR φ x.2 y.2
theorem fill_sim {φ : Ren} {place : Nat → Option (Nat × Nat)} : ∀ {parts parts' : List (Nat × Value)} {cells r : List Value} {cells' : Array Value}, PR φ parts parts' → LR φ cells cells'.toList → fillV place cells parts = some r →
    ∃ r', Instr.fill place cells' parts' = some r' ∧ LR φ r r'.toList
  | [], parts', cells, r, cells', hp, hc, h => by
    cases parts' with
    | nil => cases h; exact ⟨cells', rfl, hc⟩
    | cons y l => have := hp.1; simp at this
  | (i, v) :: rest, parts', cells, r, cells', hp, hc, h => by
    cases parts' with
    | nil => have := hp.1; simp at this
    | cons y l =>
      obtain ⟨j, v'⟩ := y
      obtain ⟨h1, h2⟩ := hp.2 0 (i, v) (j, v') rfl rfl
      cases h1
      simp only at h2
      simp only [fillV] at h
      replace h := ob_some h
      obtain ⟨p, hpl, h⟩ := h
      split at h
      · rename_i hb
        replace h := ob_some h
        obtain ⟨r1, ho, h⟩ := h
        have hcl := h2.cells
        have hlen : v'.cells.size = p.2 := by
          have := hcl.1
          rw [Nat.eq_of_beq_eq_true hb] at this
          simpa using this.symm
        obtain ⟨q1, q2, q3⟩ := over_spec _ _ _ _ ho
        have hcs := hc.1
        have hcl1 := hcl.1
        simp only [Array.length_toList] at hcs hcl1
        obtain ⟨f1, f2⟩ := foldl_set p.1 v'.cells.toList 0 cells' (by simp; omega)
        have hL : LR φ r1 ((v'.cells.toList.zipIdx 0).foldl (fun cs p' => cs.setIfInBounds (p.1 + p'.2) p'.1) cells').toList := by
          refine ⟨by simp [q1, f1, hcs], fun i x y hx hy => ?_⟩
          rw [q3] at hx
          have hy : ((v'.cells.toList.zipIdx 0).foldl (fun cs p' => cs.setIfInBounds (p.1 + p'.2) p'.1) cells')[i]? = some y := by simpa using hy
          rw [f2] at hy
          simp only [Nat.add_zero, Array.length_toList] at hy
          rw [hcl1] at hx
          split at hx
          · rename_i hcond
            rw [if_pos hcond] at hy
            exact hcl.2 _ x y hx hy
          · rename_i hcond
            rw [if_neg hcond] at hy
            exact hc.2 i x y hx (by simpa using hy)
        obtain ⟨r', g1, g2⟩ := fill_sim (parts' := l) ⟨by have := hp.1; simpa using this, fun i x y hx hy => hp.2 (i + 1) x y (by simpa using hx) (by simpa using hy)⟩ hL h
        refine ⟨r', ?_, g2⟩
        rw [← g1]
        simp only [Instr.fill, hpl]
        rw [if_neg (by simp; omega)]
        congr 1
        rw [← Array.foldl_toList, Array.toList_zipIdx]
      · cases h
theorem mapO_mapM {α β : Type} (f : α → Option β) : ∀ (l : List α), mapO f l = l.mapM f
  | [] => rfl
  | x :: l => by
    rw [mapO_cons, List.mapM_cons, mapO_mapM f l]
    cases f x with
    | none => rfl
    | some y => cases l.mapM f <;> rfl
noncomputable def placesV (P : Program) (fs : List Field) : Option (List (Nat × Nat)) := mapO (fun f => ob (sizeB P f.type) fun s => some (f.offset, s)) fs
noncomputable def buildV (P : Program) (t : TypeId) (parts : List (Nat × Value)) : Option Value :=
  ob (zeroB P t) fun z => match P.underlying t with
    | some (.struct fields) => ob (placesV P fields.toList) fun ps => ob (fillV (fun i => nth ps i) (cellsV z) parts) fun cs => some (.agg ⟨cs⟩)
    | some (.array _ e) => ob (sizeB P e) fun s => ob (fillV (fun i => some (i * s, s)) (cellsV z) parts) fun cs => some (.agg ⟨cs⟩)
    | _ => none
theorem zeroB_info {P : Program} {t : TypeId} {z : Value} (h : zeroB P t = some z) : ∃ i, P.info? t = some i ∧ i.zero = some z ∧ plain 20 z = true := by
  unfold zeroB at h
  cases hu : P.info? t with
  | none => rw [hu] at h; cases h
  | some i =>
    rw [hu] at h
    simp only at h
    cases hz : i.zero with
    | none => rw [hz] at h; cases h
    | some z' =>
      rw [hz] at h
      simp only at h
      split at h
      · rename_i hp
        rw [plainF_eq] at hp
        cases h; exact ⟨i, rfl, hz, hp⟩
      · cases h
theorem sizeB_info {P : Program} {t : TypeId} {s : Nat} (h : sizeB P t = some s) : ∃ i, P.info? t = some i ∧ i.size = s := by
  unfold sizeB at h
  cases hu : P.info? t with
  | none => rw [hu] at h; cases h
  | some i => rw [hu] at h; cases h; exact ⟨i, rfl, rfl⟩
theorem buildV_run {P : Program} {φ : Ren} {t : TypeId} {parts : List (Nat × Value)} {parts' : Array (Nat × Value)} {v : Value} (hp : PR φ parts parts'.toList) (h : buildV P t parts = some v) :
    ∃ v', VR φ v v' ∧ ∀ w, (Instr.build t parts').run P w = .ok v' w := by
  unfold buildV at h
  replace h := ob_some h
  obtain ⟨z, hz, h⟩ := h
  obtain ⟨iz, hiz, hzz, hzp⟩ := zeroB_info hz
  have hzc := (VR.self (φ := φ) 20 z hzp).cells
  split at h
  · rename_i fields hu
    replace h := ob_some h
    obtain ⟨ps, hps, h⟩ := h
    replace h := ob_some h
    obtain ⟨cs, hcs, h⟩ := h
    cases h
    obtain ⟨r', h1, h2⟩ := fill_sim hp hzc hcs
    refine ⟨.agg r', VR.ofAgg h2, fun w => run_build w t parts' r' ?_⟩
    have hps' : fields.toList.mapM (fun f => (P.info? f.type).map fun i => (f.offset, i.size)) = some ps := by
      rw [← hps, placesV, mapO_mapM]
      congr 1
      funext f
      unfold sizeB
      cases P.info? f.type <;> rfl
    unfold Program.built
    simp only [hiz, hu, hzz, hps']
    rw [← h1]
    congr 1
    funext i
    simp [nth_eq]
  · rename_i n e hu
    replace h := ob_some h
    obtain ⟨s, hs, h⟩ := h
    replace h := ob_some h
    obtain ⟨cs, hcs, h⟩ := h
    cases h
    obtain ⟨r', h1, h2⟩ := fill_sim hp hzc hcs
    obtain ⟨ie, hie, his⟩ := sizeB_info hs
    refine ⟨.agg r', VR.ofAgg h2, fun w => run_build w t parts' r' ?_⟩
    unfold Program.built
    simp only [hiz, hu, hzz, hie, his]
    exact h1
  · cases h
/-- equality -/
noncomputable def eqV (P : Program) (C : Nat → Option Blk) : Nat → TypeId → Value → Value → Option Bool
  | 0, _, _, _ => none
  | d + 1, t, x, y => match P.underlying t, x, y with
    | some .bool, .bool a, .bool b => some (a == b)
    | some (.int _), .int k a, .int k' b => if k = k' then some (a == b) else none
    | some (.float _), .float k a, .float k' b => if k = k' then some (Op.floatEq k a b) else none
    | some .string, .string a, .string b => some (a.data.toList == b.data.toList)
    | some (.pointer _), .pointer none, .pointer b => some b.isNone
    | some (.pointer _), .pointer (some _), .pointer none => some false
    | some (.pointer e), .pointer (some ⟨i, o, none⟩), .pointer (some ⟨j, q, none⟩) => match sizeB P e, Nat.beq i j, C i, C j with
      | some (_ + 1), true, _, _ => some (Nat.beq o q)
      | some (_ + 1), false, some (.cells _ _ _ none), some (.cells _ _ _ none) => some false
      | _, _, _, _ => none
    | some (.interface _), .nilIface, .nilIface => some true
    | some (.interface _), .nilIface, .iface _ _ | some (.interface _), .iface _ _, .nilIface => some false
    | some (.interface _), .iface tx vx, .iface ty vy => match Nat.beq tx ty, P.info? tx with
      | false, _ => some false
      | true, some i => match i.comparable with
        | true => eqV P C d tx vx vy
        | false => none
      | true, none => none
    | some (.slice _), .slice none _ _, .slice b _ _ => some b.isNone
    | some (.slice _), .slice (some _) _ _, .slice none _ _ => some false
    | some (.map _ _), .map none, .map b => some b.isNone
    | some (.map _ _), .map (some _), .map none => some false
    | some (.func _ _ _), .nilFunc, .nilFunc => some true
    | some (.func _ _ _), .nilFunc, .func _ _ _ | some (.func _ _ _), .func _ _ _, .nilFunc => some false
    | _, _, _ => none
theorem toList_beq (a b : ByteArray) : (a == b) = (a.data.toList == b.data.toList) := by
  obtain ⟨⟨x⟩⟩ := a
  obtain ⟨⟨y⟩⟩ := b
  show ((⟨x⟩ : Array UInt8) == ⟨y⟩) = (x == y)
  simp
theorem sameAddr_run {P : Program} {φ : Ren} {C : Nat → Option Blk} {n : Nat} {w : World} (hr : HR φ C n w) {i j b c o q : Nat} (hi : φ i = some b) (hj : φ j = some c) {cs ds : List Value} {e f : TypeId} {ex fx : Option Nat}
    (ci : C i = some (.cells cs e ex none)) (cj : C j = some (.cells ds f fx none)) (hne : i ≠ j) : (sameAddr ⟨b, o, none⟩ ⟨c, q, none⟩).run P w = .ok false w := by
  have hbc : b ≠ c := fun h => by
    subst h
    exact hne (hr.inj i j b hi hj (by rw [ci]; trivial) (by rw [cj]; trivial))
  have r1 := hr.row i b hi
  have r2 := hr.row j c hj
  rw [ci] at r1
  rw [cj] at r2
  obtain ⟨c1, f1, a1, -, -, z1⟩ := r1
  obtain ⟨c2, f2, a2, -, -, z2⟩ := r2
  cases z1
  cases z2
  have fb : ∀ x, w.frozen? ⟨b, x, none⟩ = false := fun x => by simp [World.frozen?, a1]
  have fc : ∀ x, w.frozen? ⟨c, x, none⟩ = false := fun x => by simp [World.frozen?, a2]
  have sb : w.shape? b = some (e, c1.size) := by simp [World.shape?, a1]
  have sc : w.shape? c = some (f, c2.size) := by simp [World.shape?, a2]
  have vb : (viewAt b).run P w = .ok none w := by simp [viewAt, sb]
  have vc : (viewAt c).run P w = .ok none w := by simp [viewAt, sc]
  have tb : (stringish ⟨b, o, none⟩).run P w = .ok false w := by simp [stringish, fb, sb]
  have tc : (stringish ⟨c, q, none⟩).run P w = .ok false w := by simp [stringish, fc, sc]
  have hbq : (b == c) = false := by simpa using hbc
  unfold sameAddr
  simp [hbq, fb, noView, vb, vc, mayBeOne, tb, tc, sb, sc]
set_option maxHeartbeats 4000000 in
theorem eqV_run {P : Program} {φ : Ren} {C : Nat → Option Blk} {n : Nat} {w : World} (hr : HR φ C n w) : ∀ (k d : Nat) (t : TypeId) (x y x' y' : Value) (r : Bool), k ≤ d → VR φ x x' → VR φ y y' → eqV P C k t x y = some r →
    (Op.equalIn d t x' y').run P w = .ok r w := by
  intro k
  induction k with
  | zero => intro d t x y x' y' r hd hx hy h; cases h
  | succ k ih =>
    intro d t x y x' y' r hd hx hy h
    obtain ⟨d, rfl⟩ : ∃ m, d = m + 1 := ⟨d - 1, by omega⟩
    unfold eqV at h
    split at h
    · rename_i hu; cases hx; cases hy; cases h; simp [Op.equalIn, run_underlying' hu]
    · rename_i hu; cases hx; cases hy
      split at h
      · rename_i hk; cases h; subst hk; simp [Op.equalIn, run_underlying' hu]
      · cases h
    · rename_i hu; cases hx; cases hy
      split at h
      · rename_i hk; cases h; subst hk; simp [Op.equalIn, run_underlying' hu]
      · cases h
    · rename_i hu; cases hx; cases hy; cases h; simp [Op.equalIn, run_underlying' hu, toList_beq]
    · rename_i hu; cases hx; cases hy <;> (cases h; simp [Op.equalIn, run_underlying' hu])
    · rename_i hu; cases hx; cases hy; cases h; simp [Op.equalIn, run_underlying' hu]
    · rename_i e i o j q hu
      cases hx with
      | ptr hb =>
        cases hy with
        | ptr hc =>
          split at h
          · rename_i s hs hij
            have := Nat.eq_of_beq_eq_true hij
            subst this
            rw [hb] at hc
            cases hc
            cases h
            rename_i b
            simp [Op.equalIn, run_underlying' hu, sizeB_run hs, sameAddr]
            rw [Bool.eq_iff_iff]
            simp
          · rename_i s cs1 e1 x1 cs2 e2 x2 hs hij ci cj
            cases h
            have hne : i ≠ j := fun he => by rw [he, Nat.beq_refl] at hij; cases hij
            have := sameAddr_run (P := P) (o := o) (q := q) hr hb hc ci cj hne
            simp [Op.equalIn, run_underlying' hu, sizeB_run hs, this]
          · cases h
    · rename_i hu; cases hx; cases hy; cases h; simp [Op.equalIn, run_underlying' hu]
    · rename_i hu; cases hx; cases hy; cases h; simp [Op.equalIn, run_underlying' hu]
    · rename_i hu; cases hx; cases hy; cases h; simp [Op.equalIn, run_underlying' hu]
    · rename_i tx vx ty vy hu
      cases hx with
      | iface _ hx =>
        cases hy with
        | iface _ hy =>
          split at h
          · rename_i ht
            cases h
            have hne : tx ≠ ty := fun he => by rw [he, Nat.beq_refl] at ht; cases ht
            simp [Op.equalIn, run_underlying' hu, hne]
          · rename_i i ht hi
            have := Nat.eq_of_beq_eq_true ht
            subst this
            split at h
            · rename_i hcmp
              simp [Op.equalIn, run_underlying' hu, run_typeInfo' hi, hcmp]
              exact ih d tx vx vy _ _ r (by omega) hx hy h
            · cases h
          · cases h
    · rename_i hu; cases hx; cases hy <;> (cases h; simp [Op.equalIn, run_underlying' hu])
    · rename_i hu; cases hx; cases hy; cases h; simp [Op.equalIn, run_underlying' hu]
    · rename_i hu; cases hx; cases hy <;> (cases h; simp [Op.equalIn, run_underlying' hu])
    · rename_i hu; cases hx; cases hy; cases h; simp [Op.equalIn, run_underlying' hu]
    · rename_i hu; cases hx; cases hy; cases h; simp [Op.equalIn, run_underlying' hu]
    · rename_i hu; cases hx; cases hy; cases h; simp [Op.equalIn, run_underlying' hu]
    · rename_i hu; cases hx; cases hy; cases h; simp [Op.equalIn, run_underlying' hu]
    · cases h
end Go.Proofs.YtjkifbkehochoaaGreatDoor.Ev
namespace Go.Proofs.YtjkifbkehochoaaGreatDoor.Ev
noncomputable def bytesV : List Value → Option (List Int)
  | [] => some []
  | .int .u8 n :: l => ob (bytesV l) fun r => some (n :: r)
  | _ => none
theorem bytesV_spec {φ : Ren} {l l' : List Value} {ns : List Int} (h : bytesV l = some ns) (hl : LR φ l l') : l' = ns.map (Value.int .u8) := by
  induction l generalizing l' ns with
  | nil =>
    cases h
    cases l' with
    | nil => rfl
    | cons y l => have := hl.1; simp at this
  | cons x l ih =>
    obtain ⟨y, b', rfl, h1, h2⟩ := hl.uncons
    unfold bytesV at h
    split at h
    · rename_i heq; cases heq
    · rename_i n l0 heq
      cases heq
      replace h := ob_some h
      obtain ⟨r, hr, h⟩ := h
      cases h
      cases h1
      rw [ih hr h2]
      rfl
    · cases h
theorem push_all : ∀ (ns : List Int) (s : List UInt8), ns.foldl (fun (r : ByteArray) n => r.push (UInt8.ofNat n.toNat)) ⟨⟨s⟩⟩ = ⟨⟨s ++ ns.map fun n => UInt8.ofNat n.toNat⟩⟩
  | [], s => by simp
  | n :: ns, s => by
    simp only [List.foldl_cons, List.map_cons]
    have : (⟨⟨s⟩⟩ : ByteArray).push (UInt8.ofNat n.toNat) = ⟨⟨s ++ [UInt8.ofNat n.toNat]⟩⟩ := by
      show (⟨(⟨s⟩ : Array UInt8).push _⟩ : ByteArray) = _
      congr 1
      apply Array.ext'
      simp
    rw [this, push_all ns]
    simp
theorem pureRun_plain {P : Program} {φ : Ren} {s : Sem Value} {v : Value} (h : (ob (pureRun P s) fun r => match plainF r with | true => some r | false => none) = some v) : VR φ v v ∧ ∀ w, s.run P w = .ok v w := by
  replace h := ob_some h
  obtain ⟨r, hr, h⟩ := h
  split at h
  · rename_i hp
    rw [plainF_eq] at hp
    cases h; exact ⟨VR.self 20 _ hp, pureRun_run hr⟩
  · cases h
noncomputable def pureV (P : Program) (s : Sem Value) : Option Value := ob (pureRun P s) fun r => match plainF r with | true => some r | false => none
theorem pureV_run {P : Program} {φ : Ren} {s : Sem Value} {v : Value} (h : pureV P s = some v) : VR φ v v ∧ ∀ w, s.run P w = .ok v w := pureRun_plain h
noncomputable def convV' (P : Program) (C : Nat → Option Blk) (src dst : TypeId) (x : Value) : Option Value :=
  match plainF x with
  | true => pureV P (convert src dst x)
  | false => match P.underlying src, P.underlying dst, x with
    | some (.slice e), some .string, .slice (some ⟨id, off, none⟩) len _ => match P.underlying e with
      | some (.int .u8) => ob (rowAt C id off len) fun l => ob (bytesV l) fun ns => some (.string ⟨⟨ns.map fun n => UInt8.ofNat n.toNat⟩⟩)
      | _ => none
    | _, _, _ => none
theorem convV_run {P : Program} {φ : Ren} {C : Nat → Option Blk} {n : Nat} {w : World} (hr : HR φ C n w) {src dst : TypeId} {x x' v : Value} (hx : VR φ x x') (h : convV' P C src dst x = some v) :
    ∃ v', VR φ v v' ∧ (convert src dst x').run P w = .ok v' w := by
  unfold convV' at h
  split at h
  · rename_i hp
    rw [plainF_eq] at hp
    obtain ⟨h1, h2⟩ := pureV_run (φ := φ) h
    have := VR.same 20 x x' hp hx
    subst this
    exact ⟨v, h1, h2 w⟩
  · rename_i hp0
    split at h
    · rename_i e id off len cap hs hd
      split at h
      · rename_i he
        replace h := ob_some h
        obtain ⟨l, hl, h⟩ := h
        replace h := ob_some h
        obtain ⟨ns, hns, h⟩ := h
        cases h
        cases hx with
        | sl hb hc =>
          obtain ⟨l', h1, h2, h3, h4⟩ := rowAt_run (P := P) hr hb hl
          have := bytesV_spec hns h2
          subst this
          refine ⟨_, .string _, ?_⟩
          rename_i b c'
          have hrun := run_bytesToString (P := P) w ⟨b, off, none⟩ len c' ns h4
          rw [show (ByteArray.empty : ByteArray) = ⟨⟨[]⟩⟩ from rfl, push_all] at hrun
          simp [convert, run_underlying' hs, run_underlying' hd, run_underlying' he]
          simpa using hrun
      · cases h
    · cases h
noncomputable def kindEq : Value → Bool
  | .int _ _ | .float _ _ | .complex _ _ _ | .string _ => false
  | _ => true
theorem binOp_eql {t : TypeId} {a b : Value} (h : kindEq a = true) : binOp .eql t a b = (do pure (.bool (← Op.equal t a b))) := by
  unfold binOp
  cases a <;> simp_all [kindEq]
theorem binOp_neq {t : TypeId} {a b : Value} (h : kindEq a = true) : binOp .neq t a b = (do pure (.bool (!(← Op.equal t a b)))) := by
  unfold binOp
  cases a <;> simp_all [kindEq]
theorem VR.kindEq {φ : Ren} {a b : Value} (h : VR φ a b) : kindEq b = kindEq a := by cases h <;> rfl
/-- wrapping, quickly where nothing is to be wrapped -/
noncomputable def maxNat (k : IntKind) : Nat := match k with
  | .i8 => 127 | .i16 => 32767 | .i32 => 2147483647 | .i64 => 9223372036854775807
  | .u8 => 255 | .u16 => 65535 | .u32 => 4294967295 | .u64 => 18446744073709551615
theorem wrap_small (k : IntKind) (m : Nat) (h : m ≤ maxNat k) : k.wrap (m : Int) = m := by
  unfold IntKind.wrap
  cases k <;> simp only [maxNat] at h <;> simp only [IntKind.bits, IntKind.signed, Bool.true_and, Bool.false_and, Nat.reduceSub, Bool.false_eq_true, if_false, decide_eq_true_eq]
  all_goals first
    | omega
    | (rw [if_neg (fun hd => by have := of_decide_eq_true hd; omega)]; omega)
noncomputable def wrapF (k : IntKind) (n : Int) : Int := match n with
  | .ofNat m => match Nat.ble m (maxNat k) with
    | true => .ofNat m
    | false => k.wrap (.ofNat m)
  | .negSucc m => k.wrap (.negSucc m)
theorem wrapF_eq (k : IntKind) (n : Int) : wrapF k n = k.wrap n := by
  unfold wrapF
  split
  · split
    · rename_i h; exact (wrap_small k _ (Nat.le_of_ble_eq_true h)).symm
    · rfl
  · rfl
noncomputable def eqI (a b : Int) : Bool := match a, b with
  | .ofNat m, .ofNat n => Nat.beq m n
  | .negSucc m, .negSucc n => Nat.beq m n
  | _, _ => false
theorem eqI_eq (a b : Int) : eqI a b = (a == b) := by
  rw [Bool.eq_iff_iff]
  cases a <;> cases b <;> simp [eqI] <;> omega
noncomputable def ltI (a b : Int) : Bool := match a, b with
  | .ofNat m, .ofNat n => Nat.ble (Nat.add m 1) n
  | .negSucc m, .negSucc n => Nat.ble (Nat.add n 1) m
  | .negSucc _, .ofNat _ => true
  | .ofNat _, .negSucc _ => false
theorem ltI_eq (a b : Int) : ltI a b = decide (a < b) := by
  unfold ltI
  rw [Bool.eq_iff_iff]
  split <;> simp <;> omega
noncomputable def addI (a b : Int) : Int := match a, b with
  | .ofNat m, .ofNat n => .ofNat (Nat.add m n)
  | a, b => a + b
theorem addI_eq (a b : Int) : addI a b = a + b := by
  unfold addI
  split <;> rfl
noncomputable def subI (a b : Int) : Int := match a, b with
  | .ofNat m, .ofNat n => match Nat.ble n m with
    | true => .ofNat (Nat.sub m n)
    | false => Int.ofNat m - Int.ofNat n
  | a, b => a - b
theorem subI_eq (a b : Int) : subI a b = a - b := by
  unfold subI
  split
  · split
    · rename_i h
      have := Nat.le_of_ble_eq_true h
      simp
      omega
    · rfl
  · rfl
noncomputable def intV (P : Program) (op : BinOp) (t : TypeId) (j : IntKind) (a : Int) (k : IntKind) (b : Int) : Option Value :=
  match decide (j = k) with
  | true => match op with
    | .add => some (.int j (wrapF j (addI a b)))
    | .sub => some (.int j (wrapF j (subI a b)))
    | .eql => some (.bool (eqI a b))
    | .neq => some (.bool (!(eqI a b)))
    | .lss => some (.bool (ltI a b))
    | .leq => some (.bool (!(ltI b a)))
    | .gtr => some (.bool (ltI b a))
    | .geq => some (.bool (!(ltI a b)))
    | op => pureV P (binOp op t (.int j a) (.int k b))
  | false => pureV P (binOp op t (.int j a) (.int k b))
theorem not_lt_le (a b : Int) : (!decide (a < b)) = decide (b ≤ a) := by
  rw [Bool.eq_iff_iff]
  simp
theorem intV_run {P : Program} {φ : Ren} {op : BinOp} {t : TypeId} {j k : IntKind} {a b : Int} {v : Value} (h : intV P op t j a k b = some v) : VR φ v v ∧ ∀ w, (binOp op t (.int j a) (.int k b)).run P w = .ok v w := by
  unfold intV at h
  split at h
  · rename_i hjk
    have hjk := of_decide_eq_true hjk
    subst hjk
    split at h
    · cases h; exact ⟨.int _ _, fun w => by rw [wrapF_eq, addI_eq]; simp [binOp, Op.intArith]⟩
    · cases h; exact ⟨.int _ _, fun w => by rw [wrapF_eq, subI_eq]; simp [binOp, Op.intArith]⟩
    · cases h; exact ⟨.bool _, fun w => by rw [eqI_eq]; simp [binOp, Op.intCmp]⟩
    · cases h; exact ⟨.bool _, fun w => by rw [eqI_eq]; simp [binOp, Op.intCmp, bne]⟩
    · cases h; exact ⟨.bool _, fun w => by rw [ltI_eq]; simp [binOp, Op.intCmp]⟩
    · cases h; exact ⟨.bool _, fun w => by rw [ltI_eq, not_lt_le]; simp [binOp, Op.intCmp]⟩
    · cases h; exact ⟨.bool _, fun w => by rw [ltI_eq]; simp [binOp, Op.intCmp]⟩
    · cases h; exact ⟨.bool _, fun w => by rw [ltI_eq, not_lt_le]; simp [binOp, Op.intCmp]⟩
    · exact pureV_run h
  · exact pureV_run h
noncomputable def binV (P : Program) (C : Nat → Option Blk) (op : BinOp) (t : TypeId) (x y : Operand) (a b : Value) : Option Value :=
  match a, b with
  | .int j a, .int k b => intV P op t j a k b
  | .float j a, .float k b => pureV P (binOp op t (.float j a) (.float k b))
  | .string a, .string b => match op with
    | .add => match Nat.ble (a.data.toList.length + b.data.toList.length) 1000000000 with
      | true => some (.string ⟨⟨a.data.toList ++ b.data.toList⟩⟩)
      | false => none
    | .eql => some (.bool (a.data.toList == b.data.toList))
    | .neq => some (.bool (!(a.data.toList == b.data.toList)))
    | _ => none
  | .agg a, .agg b => match plain 20 (.agg a), plain 20 (.agg b) with
    | true, true => pureV P (do eqGuard op t x y (.agg a) (.agg b); binOp op t (.agg a) (.agg b))
    | _, _ => none
  | .nilIface, .nilIface => match op, x, y with
    | .eql, .const _, _ | .eql, _, .const _ => ob (eqV P C 10 t .nilIface .nilIface) fun r => some (.bool r)
    | .neq, .const _, _ | .neq, _, .const _ => ob (eqV P C 10 t .nilIface .nilIface) fun r => some (.bool !r)
    | _, _, _ => none
  | .agg _, _ | _, .agg _ => none
  | a, b => match op, kindEq a with
    | .eql, true => ob (eqV P C 10 t a b) fun r => some (.bool r)
    | .neq, true => ob (eqV P C 10 t a b) fun r => some (.bool !r)
    | _, _ => none
theorem eqGuard_none {P : Program} {w : World} (op : BinOp) (t : TypeId) (x y : Operand) (a b : Value) (h1 : a ≠ .nilIface ∨ b ≠ .nilIface) (h2 : (∀ c, a ≠ .agg c) ∨ ∀ c, b ≠ .agg c) : (eqGuard op t x y a b).run P w = .ok () w := by
  unfold eqGuard
  rw [Sem.run_ite]
  split <;> simp only [Bool.not_true, Bool.not_false, Bool.false_eq_true, if_false, if_true, Sem.run_pure]
  all_goals
    split
    · rcases h1 with h | h <;> exact (h rfl).elim
    · rcases h2 with h | h <;> exact (h _ rfl).elim
    · rfl
theorem eqGuard_x {P : Program} {w : World} (op : BinOp) (t : TypeId) (c : Value) (y : Operand) : (eqGuard op t (.const c) y .nilIface .nilIface).run P w = .ok () w := by
  cases op <;> rfl
theorem eqGuard_y {P : Program} {w : World} (op : BinOp) (t : TypeId) (c : Value) (x : Operand) : (eqGuard op t x (.const c) .nilIface .nilIface).run P w = .ok () w := by
  cases op <;> cases x <;> rfl
theorem equal_run {P : Program} {φ : Ren} {C : Nat → Option Blk} {n : Nat} {w : World} (hr : HR φ C n w) {t : TypeId} {x y x' y' : Value} {r : Bool} (hx : VR φ x x') (hy : VR φ y y') (h : eqV P C 10 t x y = some r) :
    (Op.equal t x' y').run P w = .ok r w := eqV_run hr 10 10000 t x y x' y' r (by decide) hx hy h
theorem VR.int' {φ : Ren} {k : IntKind} {n : Int} {v : Value} (h : VR φ (.int k n) v) : v = .int k n := by cases h; rfl
theorem binV_run {P : Program} {φ : Ren} {C : Nat → Option Blk} {n : Nat} {w : World} (hr : HR φ C n w) {op : BinOp} {t : TypeId} {x y : Operand} {a b a' b' v : Value} (ha : VR φ a a') (hb : VR φ b b') (h : binV P C op t x y a b = some v) :
    ∃ v', VR φ v v' ∧ (do eqGuard op t x y a' b'; binOp op t a' b').run P w = .ok v' w := by
  unfold binV at h
  split at h
  · rename_i j a k b
    cases ha; cases hb
    obtain ⟨h1, h2⟩ := intV_run (φ := φ) h
    exact ⟨v, h1, by simp [eqGuard_none (P := P) (w := w) op t x y (.int j a) (.int k b) (.inl (by simp)) (.inl (by simp)), h2 w]⟩
  · rename_i j a k b
    cases ha; cases hb
    obtain ⟨h1, h2⟩ := pureV_run (φ := φ) h
    exact ⟨v, h1, by simp [eqGuard_none (P := P) (w := w) op t x y (.float j a) (.float k b) (.inl (by simp)) (.inl (by simp)), h2 w]⟩
  · rename_i a b
    cases ha; cases hb
    have hg := eqGuard_none (P := P) (w := w) op t x y (.string a) (.string b) (.inl (by simp)) (.inl (by simp))
    split at h
    · split at h
      · rename_i hle
        cases h
        refine ⟨_, .string _, ?_⟩
        have hle := Nat.le_of_ble_eq_true hle
        have e : (⟨⟨a.data.toList ++ b.data.toList⟩⟩ : ByteArray) = a ++ b := by
          apply ByteArray.ext
          apply Array.ext'
          simp
        have hsz : ¬ (((a.size + b.size : Nat) : Int) > IntKind.i64.max) := by
          have e1 : a.size = a.data.toList.length := rfl
          have e2 : b.size = b.data.toList.length := rfl
          have : IntKind.i64.max = 9223372036854775807 := by decide
          rw [this, e1, e2]
          omega
        simp only [Sem.run_bind, hg, Result.andThen_ok]
        rw [e]
        unfold binOp Op.stringOp
        simp only [if_neg hsz]
        rfl
      · cases h
    · cases h
      refine ⟨_, .bool _, ?_⟩
      simp only [Sem.run_bind, hg, Result.andThen_ok]
      unfold binOp Op.stringOp
      simp [ByteArray.toList_eq]
    · cases h
      refine ⟨_, .bool _, ?_⟩
      simp only [Sem.run_bind, hg, Result.andThen_ok]
      unfold binOp Op.stringOp
      simp [ByteArray.toList_eq]
    · cases h
  · rename_i a b
    split at h
    · rename_i p1 p2
      have e1 := VR.same 20 _ _ p1 ha
      have e2 := VR.same 20 _ _ p2 hb
      subst e1 e2
      obtain ⟨h1, h2⟩ := pureV_run (φ := φ) h
      exact ⟨v, h1, h2 w⟩
    · cases h
  · cases ha; cases hb
    split at h
    all_goals first | (cases h; done) | skip
    all_goals
      replace h := ob_some h
      obtain ⟨r, hr', h⟩ := h
      cases h
      have he := equal_run (P := P) hr .nilIface .nilIface hr'
      refine ⟨_, .bool _, ?_⟩
      first
        | (rw [binOp_eql rfl]; simp only [Sem.run_bind, eqGuard_x, eqGuard_y, Result.andThen_ok, he, Sem.run_pure]; done)
        | (rw [binOp_neq rfl]; simp only [Sem.run_bind, eqGuard_x, eqGuard_y, Result.andThen_ok, he, Sem.run_pure]; done)
  · cases h
  · cases h
  · rename_i n1 n2 n3 n4 n5 n6 n7
    have hg := eqGuard_none (P := P) (w := w) op t x y a' b' (by
        by_cases h1 : a' = .nilIface
        · by_cases h2 : b' = .nilIface
          · subst h1 h2
            cases ha; cases hb
            exact (n7 rfl rfl).elim
          · exact .inr h2
        · exact .inl h1) (.inl fun c hc => by subst hc; cases ha; exact n1 _ rfl)
    split at h
    · rename_i hk
      replace h := ob_some h
      obtain ⟨r, hr', h⟩ := h
      cases h
      refine ⟨_, .bool r, ?_⟩
      rw [binOp_eql (ha.kindEq.trans hk)]
      simp [hg, equal_run (P := P) hr ha hb hr']
    · rename_i hk
      replace h := ob_some h
      obtain ⟨r, hr', h⟩ := h
      cases h
      refine ⟨_, .bool _, ?_⟩
      rw [binOp_neq (ha.kindEq.trans hk)]
      simp [hg, equal_run (P := P) hr ha hb hr']
    · cases h
end Go.Proofs.YtjkifbkehochoaaGreatDoor.Ev
namespace Go.Proofs.YtjkifbkehochoaaGreatDoor.Ev
noncomputable def entriesV (C : Nat → Option Blk) (m : Option Nat) : Option (List MapEntry × Nat) := match m with
  | none => some ([], 0)
  | some r => match C r with
    | some (.obj (.map es c)) => some (es.toList, c)
    | _ => none
noncomputable def findV (kind : TypeDesc) (k : Value) : List MapEntry → Nat → Option (Option (Nat × Value))
  | [], _ => some none
  | e :: es, i => match kind, k, e.key with
    | .int _, .int j a, .int j' b => if j = j' then (match a == b with | true => some (some (i, e.val)) | false => findV kind k es (i + 1)) else none
    | .string, .string a, .string b => match a.data.toList == b.data.toList with | true => some (some (i, e.val)) | false => findV kind k es (i + 1)
    | .bool, .bool a, .bool b => match a == b with | true => some (some (i, e.val)) | false => findV kind k es (i + 1)
    | _, _, _ => none
noncomputable def keyKind : TypeDesc → Bool
  | .int _ | .string | .bool => true
  | _ => false
def ESR (φ : Ren) (a b : List MapEntry) : Prop := a.length = b.length ∧ ∀ (i : Nat) (x y : MapEntry), a[i]? = some x → b[i]? = some y → ER φ x y
theorem VR.str' {φ : Ren} {s : ByteArray} {v : Value} (h : VR φ (.string s) v) : v = .string s := by cases h; rfl
theorem VR.bool' {φ : Ren} {b : Bool} {v : Value} (h : VR φ (.bool b) v) : v = .bool b := by cases h; rfl
theorem findV_run {φ : Ren} {kind : TypeDesc} {k k' : Value} (hk : VR φ k k') : ∀ {es es' : List MapEntry} {i : Nat} {r : Option (Nat × Value)}, ESR φ es es' → findV kind k es i = some r →
    ∃ r', Instr.findNow kind k' es' i = some r' ∧ (match r, r' with | none, none => True | some (a, v), some (b, u) => a = b ∧ VR φ v u | _, _ => False)
  | [], es', i, r, hes, h => by
    cases es' with
    | nil => cases h; exact ⟨none, rfl, trivial⟩
    | cons y l => have := hes.1; simp at this
  | e :: es, es', i, r, hes, h => by
    cases es' with
    | nil => have := hes.1; simp at this
    | cons e' es' =>
      obtain ⟨hke, hve, -⟩ := hes.2 0 e e' rfl rfl
      have hrest : ESR φ es es' := ⟨by have := hes.1; simpa using this, fun i x y hx hy => hes.2 (i + 1) x y (by simpa using hx) (by simpa using hy)⟩
      simp only [findV] at h
      simp only [Instr.findNow]
      split at h
      · rename_i q j a j' b heq
        rw [heq] at hke
        cases hk
        have he' := hke.int'
        split at h
        · rename_i hj
          subst hj
          simp only [Instr.sameNow, he', if_true]
          split at h
          · rename_i hab
            cases h
            simp only [hab]
            exact ⟨_, rfl, rfl, hve⟩
          · rename_i hab
            simp only [hab]
            exact findV_run (.int _ _) hrest h
        · cases h
      · rename_i a b heq
        rw [heq] at hke
        cases hk
        have he' := hke.str'
        simp only [Instr.sameNow, he', toList_beq]
        split at h
        · rename_i hab
          cases h
          simp only [hab]
          exact ⟨_, rfl, rfl, hve⟩
        · rename_i hab
          simp only [hab]
          exact findV_run (.string _) hrest h
      · rename_i a b heq
        rw [heq] at hke
        cases hk
        have he' := hke.bool'
        simp only [Instr.sameNow, he']
        split at h
        · rename_i hab
          cases h
          simp only [hab]
          exact ⟨_, rfl, rfl, hve⟩
        · rename_i hab
          simp only [hab]
          exact findV_run (.bool _) hrest h
      · cases h
theorem entriesV_run {P : Program} {φ : Ren} {C : Nat → Option Blk} {n : Nat} {w : World} (hr : HR φ C n w) {m : Option Nat} {v' : Value} {es : List MapEntry × Nat} (hm : VR φ (.map m) v') (h : entriesV C m = some es) :
    (m = none ∧ v' = .map none ∧ es = ([], 0)) ∨ ∃ r b es' c, m = some r ∧ φ r = some b ∧ v' = .map (some b) ∧ C r = some (.obj (.map ⟨es.1⟩ es.2)) ∧ w.heap[b]? = some (.map es' c) ∧ c = es.2 ∧ ESR φ es.1 es'.toList := by
  unfold entriesV at h
  split at h
  · cases h; cases hm; exact .inl ⟨rfl, rfl, rfl⟩
  · rename_i r
    split at h
    · rename_i es0 c hC
      cases h
      cases hm with
      | map hb =>
        rename_i b
        have hrow := hr.row r b hb
        rw [hC] at hrow
        obtain ⟨o, ho, hor⟩ := hrow
        cases o with
        | map es' c' =>
          obtain ⟨h1, h2, h3⟩ := hor
          exact .inr ⟨r, b, es', c', rfl, hb, rfl, hC, ho, h1.symm, by simpa using h2, fun i x y hx hy => h3 i x y (by simpa using hx) (by simpa using hy)⟩
        | _ => exact hor.elim
    · cases h
/-- what an operation gives that writes nothing -/
noncomputable def tupOk (ok : Bool) (v : Value) (b : Bool) : Value := match ok with
  | true => .tuple ⟨[v, .bool b]⟩
  | false => v
theorem tupOk_VR {φ : Ren} {ok b : Bool} {v v' : Value} (h : VR φ v v') : VR φ (tupOk ok v b) (tupOk ok v' b) := by
  cases ok
  · exact h
  · exact VR.ofTuple (LR.cons h (LR.cons (.bool b) LR.nil))
noncomputable def optR (ρ : Operand → Option Value) (x : Option Operand) : Option (Option Value) := match x with
  | none => some none
  | some y => ob (ρ y) fun v => some (some v)
theorem optR_run {φ : Ren} {ρ : Operand → Option Value} {ρ' : Operand → Value} (hρ : ∀ x v, ρ x = some v → VR φ v (ρ' x)) {x : Option Operand} {r : Option Value} (h : optR ρ x = some r) : VO φ r (x.map ρ') := by
  unfold optR at h
  split at h
  · cases h; exact .none
  · replace h := ob_some h
    obtain ⟨v, hv, h⟩ := h
    cases h
    exact .some (hρ _ _ hv)
noncomputable def lenV (P : Program) (C : Nat → Option Blk) (t : TypeId) (x : Value) : Option Value := match P.underlying t, x with
  | some .string, .string s => some (.int .i64 s.data.toList.length)
  | some (.slice _), .slice _ n _ => some (.int .i64 n)
  | some (.map _ _), .map m => ob (entriesV C m) fun e => some (.int .i64 e.1.length)
  | _, _ => none
theorem lenV_run {P : Program} {φ : Ren} {C : Nat → Option Blk} {n : Nat} {w : World} (hr : HR φ C n w) {t ty : TypeId} {x x' v : Value} {ts : Array TypeId} {args : Array Value} (hts : ts[0]? = some t) (ha : args[0]? = some x') (hx : VR φ x x') (h : lenV P C t x = some v) :
    ∃ v', VR φ v v' ∧ (Builtin.len_ ts ty args).run P w = .ok v' w := by
  unfold lenV at h
  split at h
  · rename_i s hu
    cases hx; cases h
    refine ⟨_, .int _ _, ?_⟩
    unfold Builtin.len_
    rw [hts, ha]
    simp only [Sem.run_bind, run_underlying' hu, Result.andThen_ok]
    rfl
  · rename_i hu
    cases h
    cases hx with
    | sl0 => exact ⟨_, .int _ _, by simp [Builtin.len_, hts, ha, run_underlying' hu, goInt]⟩
    | sl hb hc => exact ⟨_, .int _ _, by simp [Builtin.len_, hts, ha, run_underlying' hu, goInt]⟩
  · rename_i m hu
    replace h := ob_some h
    obtain ⟨e, he, h⟩ := h
    cases h
    rcases entriesV_run (P := P) hr hx he with ⟨rfl, rfl, rfl⟩ | ⟨r, b, es', c, rfl, hb, rfl, -, ho, hc, hes⟩
    · exact ⟨_, .int _ _, by simp [Builtin.len_, hts, ha, run_underlying' hu, goInt]⟩
    · refine ⟨_, .int _ _, ?_⟩
      have := hes.1
      simp [Builtin.len_, hts, ha, run_underlying' hu, goInt, getObj, Sem.run, ho]
      simp at this
      omega
  · cases h
noncomputable def evV (P : Program) (C : Nat → Option Blk) (ρ : Operand → Option Value) (o : Oper) : Option Value :=
  match o.op with
  | .move x | .assign x => ρ x
  | .pick c a b => match ρ c with
    | some (.bool true) => ρ a
    | some (.bool false) => ρ b
    | _ => none
  | .build t parts => ob (mapO (fun p => ob (ρ p.2) fun v => some (p.1, v)) parts.toList) fun ps => buildV P t ps
  | .load t x => ob (ρ x) fun a => loadV P C t a
  | .nilCheck x => match ρ x with
    | some (.pointer (some a)) => some (.pointer (some a))
    | some (.iface t v) => some (.iface t v)
    | some (.func (.func f) a b) => some (.func (.func f) a b)
    | _ => none
  | .binOp op t x y _ => ob (ρ x) fun a => ob (ρ y) fun b => binV P C op t x y a b
  | .unOp op _ x => ob (ρ x) fun v => match plainF v with
    | true => pureV P (Op.unary op v)
    | false => none
  | .convert s d x => ob (ρ x) fun v => convV' P C s d v
  | .makeInterface t x => ob (ρ x) fun v => match P.underlying t with
    | some (.interface _) => none
    | some _ => some (.iface t v)
    | none => none
  | .makeFunc fn a b => ob (mapO ρ a.toList) fun x => ob (mapO ρ b.toList) fun y => some (.func fn ⟨x⟩ ⟨y⟩)
  | .slice t x lo hi mx => ob (ρ x) fun v => ob (optR ρ lo) fun lo => ob (optR ρ hi) fun hi => ob (optR ρ mx) fun mx => sliceV P t v lo hi mx
  | .fieldAddr s x f => match P.underlying s, ρ x with
    | some (.struct fields), some (.pointer (some ⟨id, off, none⟩)) => ob (nth fields.toList f) fun f => match sizeB P f.type with
      | some (_ + 1) => some (.pointer (some ⟨id, off + f.offset, none⟩))
      | _ => none
    | _, _ => none
  | .field t x f => match P.underlying t, ρ x with
    | some (.struct fields), some (.agg cs) => ob (nth fields.toList f) fun f => partV P f.type cs.toList f.offset
    | _, _ => none
  | .indexAddr t x i => match P.underlying t, ρ x, ρ i with
    | some (.array n e), some (.pointer (some ⟨id, off, none⟩)), some (.int _ i) => if 0 ≤ i ∧ i < (n : Int) then ob (sizeB P e) fun s => some (.pointer (some ⟨id, off + i.toNat * s, none⟩)) else none
    | some (.slice e), some (.slice (some ⟨id, off, none⟩) n _), some (.int _ i) => if 0 ≤ i ∧ i < (n : Int) then ob (sizeB P e) fun s => some (.pointer (some ⟨id, off + i.toNat * s, none⟩)) else none
    | _, _, _ => none
  | .index t x i => match P.underlying t, ρ x, ρ i with
    | some (.array n e), some (.agg cs), some (.int _ i) => if 0 ≤ i ∧ i < (n : Int) then ob (sizeB P e) fun s => partV P e cs.toList (i.toNat * s) else none
    | some .string, some (.string s), some (.int _ i) => if 0 ≤ i then ob (nth s.data.toList i.toNat) fun b => some (.int .u8 b.toNat) else none
    | _, _, _ => none
  | .lookup t x k ok => match P.underlying t, ρ x, ρ k with
    | some (.map kt e), some (.map m), some k => match P.underlying kt with
      | some kd => match keyKind kd with
        | true => ob (entriesV C m) fun es => ob (findV kd k es.1 0) fun r => match r with
          | some (_, v) => some (tupOk ok v true)
          | none => ob (zeroB P e) fun z => some (tupOk ok z false)
        | false => none
      | none => none
    | _, _, _ => none
  | .typeAssert x _ want ok => match P.underlying want, ρ x with
    | some (.interface ms), some (.iface t v) => ob (P.info? t) fun i => match Instr.missingMethod ms i.methods with
      | none => some (tupOk ok (.iface t v) true)
      | some _ => match ok with
        | true => ob (zeroB P want) fun z => some (.tuple ⟨[z, .bool false]⟩)
        | false => none
    | some _, some .nilIface => match ok with
      | true => ob (zeroB P want) fun z => some (.tuple ⟨[z, .bool false]⟩)
      | false => none
    | some _, some (.iface t v) => match Nat.beq t want with
      | true => some (tupOk ok v true)
      | false => match ok with
        | true => ob (zeroB P want) fun z => some (.tuple ⟨[z, .bool false]⟩)
        | false => none
    | _, _ => none
  | .extract x i => match ρ x with
    | some (.tuple vs) => nth vs.toList i
    | _ => none
  | .call c => match c.callee with
    | .builtin .len => ob (mapO ρ c.args.toList) fun args => ob (nth args 0) fun x => ob (nth c.argTypes.toList 0) fun t => lenV P C t x
    | .builtin .max => ob (mapO ρ c.args.toList) fun args => match plainAll args with
      | true => pureV P (Builtin.max_ c.argTypes o.type ⟨args⟩)
      | false => none
    | .builtin .min => ob (mapO ρ c.args.toList) fun args => match plainAll args with
      | true => pureV P (Builtin.min_ c.argTypes o.type ⟨args⟩)
      | false => none
    | _ => none
  | _ => none
theorem parts_run {φ : Ren} {ρ : Operand → Option Value} {ρ' : Operand → Value} (hρ : ∀ x v, ρ x = some v → VR φ v (ρ' x)) {parts : Array (Nat × Operand)} {ps : List (Nat × Value)} (h : mapO (fun p => ob (ρ p.2) fun v => some (p.1, v)) parts.toList = some ps) :
    PR φ ps (parts.map fun (i, x) => (i, ρ' x)).toList := by
  obtain ⟨h1, h2⟩ := mapO_spec h
  refine ⟨by simp [h1], fun i x y hx hy => ?_⟩
  simp only [Array.toList_map, List.getElem?_map] at hy
  cases hz : parts.toList[i]? with
  | none => rw [hz] at hy; cases hy
  | some z =>
    rw [hz] at hy
    cases hy
    obtain ⟨u, hu, hf⟩ := h2 i z hz
    rw [hx] at hu
    cases hu
    replace hf := ob_some hf
    obtain ⟨v, hv, hf⟩ := hf
    cases hf
    exact ⟨rfl, hρ _ _ hv⟩
theorem args_run {φ : Ren} {ρ : Operand → Option Value} {ρ' : Operand → Value} (hρ : ∀ x v, ρ x = some v → VR φ v (ρ' x)) {xs : Array Operand} {r : List Value} (h : mapO ρ xs.toList = some r) : LR φ r (xs.map ρ').toList := by
  rw [Array.toList_map]
  exact LR.of_mapO hρ h
theorem exec_value {P : Program} {ρ' : Operand → Value} {o : Oper} {s : Sem Value} {v : Value} {w w' : World} (h : execOp ρ' o = (do pure (.value (← s)))) (hs : s.run P w = .ok v w') : (execOp ρ' o).run P w = .ok (.value v) w' := by
  rw [h]
  simp [hs]
theorem evV_run {P : Program} {φ : Ren} {C : Nat → Option Blk} {n : Nat} {w : World} (hr : HR φ C n w) {ρ : Operand → Option Value} {ρ' : Operand → Value} (hρ : ∀ x v, ρ x = some v → VR φ v (ρ' x)) {o : Oper} {v : Value} (h : evV P C ρ o = some v) :
    ∃ v', VR φ v v' ∧ (execOp ρ' o).run P w = .ok (.value v') w := by
  obtain ⟨dst, op, ty, pos, after, guard⟩ := o
  unfold evV at h
  simp only at h
  cases op <;> simp only at h <;> first | (cases h; done) | skip
  case move x => exact ⟨_, hρ _ _ h, rfl⟩
  case assign x => exact ⟨_, hρ _ _ h, rfl⟩
  case pick c a b =>
    split at h
    · rename_i hc
      have e := (hρ _ _ hc).bool'
      exact ⟨_, hρ _ _ h, by simp [execOp, e, asBool]⟩
    · rename_i hc
      have e := (hρ _ _ hc).bool'
      exact ⟨_, hρ _ _ h, by simp [execOp, e, asBool]⟩
    · cases h
  case build t parts =>
    replace h := ob_some h
    obtain ⟨ps, hps, h⟩ := h
    obtain ⟨v', h1, h2⟩ := buildV_run (parts_run hρ hps) h
    exact ⟨v', h1, exec_value rfl (h2 w)⟩
  case load t x =>
    replace h := ob_some h
    obtain ⟨a, ha, h⟩ := h
    obtain ⟨a', h1, v', h2, h3⟩ := loadV_run (P := P) hr (hρ _ _ ha) h
    refine ⟨v', h2, exec_value (s := Instr.loadAt t (ρ' x)) rfl ?_⟩
    rw [h1]
    simp [Instr.loadAt, Instr.sureAddr, h3]
  case nilCheck x =>
    split at h
    · rename_i hx
      cases h
      have := hρ _ _ hx
      generalize hy : ρ' x = y at this
      cases this with
      | ptr hb => exact ⟨_, .ptr hb, by simp [execOp, hy]⟩
    · rename_i hx
      cases h
      have := hρ _ _ hx
      generalize hy : ρ' x = y at this
      cases this with
      | iface _ hb => exact ⟨_, .iface _ hb, by simp [execOp, hy]⟩
    · rename_i hx
      cases h
      have := hρ _ _ hx
      generalize hy : ρ' x = y at this
      cases this with
      | func fn hl h kl k => exact ⟨_, .func _ hl h kl k, by simp [execOp, hy]⟩
    · cases h
  case binOp op t x y yt =>
    replace h := ob_some h
    obtain ⟨a, ha, h⟩ := h
    replace h := ob_some h
    obtain ⟨b, hb, h⟩ := h
    obtain ⟨v', h1, h2⟩ := binV_run (P := P) hr (hρ _ _ ha) (hρ _ _ hb) h
    exact ⟨v', h1, exec_value rfl h2⟩
  case unOp op t x =>
    replace h := ob_some h
    obtain ⟨a, ha, h⟩ := h
    split at h
    · rename_i hp
      rw [plainF_eq] at hp
      obtain ⟨h1, h2⟩ := pureV_run (φ := φ) h
      have := VR.same 20 _ _ hp (hρ _ _ ha)
      subst this
      exact ⟨v, h1, exec_value rfl (h2 w)⟩
    · cases h
  case convert s d x =>
    replace h := ob_some h
    obtain ⟨a, ha, h⟩ := h
    obtain ⟨v', h1, h2⟩ := convV_run (P := P) hr (hρ _ _ ha) h
    exact ⟨v', h1, exec_value rfl h2⟩
  case makeInterface t x =>
    replace h := ob_some h
    obtain ⟨a, ha, h⟩ := h
    split at h
    · cases h
    · rename_i d hd hni
      cases h
      refine ⟨_, .iface t (hρ _ _ ha), exec_value rfl ?_⟩
      simp only [Instr.makeInterface, Sem.run_bind, run_underlying' hni, Result.andThen_ok]
      first
        | rfl
        | (split
           · rename_i ms hms
             exact (hd ms rfl).elim
           · rfl)
    · cases h
  case makeFunc fn a b =>
    replace h := ob_some h
    obtain ⟨x, hx, h⟩ := h
    replace h := ob_some h
    obtain ⟨y, hy, h⟩ := h
    cases h
    have h1 := args_run hρ hx
    have h2 := args_run hρ hy
    exact ⟨.func fn (a.map ρ') (b.map ρ'), .func fn h1.1 h1.2 h2.1 h2.2, rfl⟩
  case slice t x lo hi mx =>
    replace h := ob_some h
    obtain ⟨a, ha, h⟩ := h
    replace h := ob_some h
    obtain ⟨l, hl, h⟩ := h
    replace h := ob_some h
    obtain ⟨u, hu, h⟩ := h
    replace h := ob_some h
    obtain ⟨m, hm, h⟩ := h
    obtain ⟨v', h1, h2⟩ := sliceV_run (hρ _ _ ha) (optR_run hρ hl) (optR_run hρ hu) (optR_run hρ hm) h
    exact ⟨v', h1, exec_value rfl (h2 w)⟩
  case fieldAddr s x f =>
    split at h
    · rename_i fields id off hs hx
      replace h := ob_some h
      obtain ⟨fd, hf, h⟩ := h
      split at h
      · rename_i k hk
        cases h
        have := hρ _ _ hx
        generalize hy : ρ' x = y at this
        cases this with
        | ptr hb =>
          refine ⟨_, .ptr hb, exec_value (s := Instr.fieldAt s (ρ' x) f) rfl ?_⟩
          rw [nth_eq] at hf
          have hf' : fields[f]? = some fd := by simpa using hf
          rw [hy]
          simp [Instr.fieldAt, run_underlying' hs, hf', Instr.sureAddr, fieldPlace, sizeB_run hk, add_none]
      · cases h
    · cases h
  case field t x f =>
    split at h
    · rename_i fields cs ht hx
      replace h := ob_some h
      obtain ⟨fd, hf, h⟩ := h
      have := hρ _ _ hx
      generalize hy : ρ' x = y at this
      cases this with
      | agg hl hh =>
        rename_i a b
        obtain ⟨v', h1, h2⟩ := partV_run (P := P) (b := ⟨b⟩) ⟨hl, hh⟩ h
        refine ⟨v', h1, exec_value (s := Instr.field t (ρ' x) f) rfl ?_⟩
        rw [nth_eq] at hf
        have hf' : fields[f]? = some fd := by simpa using hf
        rw [hy]
        simp [Instr.field, run_underlying' ht, hf', asAgg, h2 w]
    · cases h
  case indexAddr t x i =>
    split at h
    · rename_i len e id off i' ht hx hi
      split at h
      · rename_i hc
        replace h := ob_some h
        obtain ⟨s, hs, h⟩ := h
        cases h
        have h1 := hρ _ _ hx
        have h2 := hρ _ _ hi
        generalize hy : ρ' x = y at h1
        generalize hj : ρ' i = j at h2
        cases h1 with
        | ptr hb =>
          cases h2
          refine ⟨_, .ptr hb, exec_value (s := Instr.indexAt t (ρ' x) (ρ' i)) rfl ?_⟩
          rw [hy, hj]
          simp [Instr.indexAt, asIntOf, run_underlying' ht, Instr.sureAddr, hc, sizeB_run hs, add_none]
      · cases h
    · rename_i e id off len cap i' ht hx hi
      split at h
      · rename_i hc
        replace h := ob_some h
        obtain ⟨s, hs, h⟩ := h
        cases h
        have h1 := hρ _ _ hx
        have h2 := hρ _ _ hi
        generalize hy : ρ' x = y at h1
        generalize hj : ρ' i = j at h2
        cases h1 with
        | sl hb hcap =>
          cases h2
          refine ⟨_, .ptr hb, exec_value (s := Instr.indexAt t (ρ' x) (ρ' i)) rfl ?_⟩
          rw [hy, hj]
          simp [Instr.indexAt, asIntOf, run_underlying' ht, hc, sizeB_run hs, add_none]
      · cases h
    · cases h
  case index t x i =>
    split at h
    · rename_i len e cs i' ht hx hi
      split at h
      · rename_i hc
        replace h := ob_some h
        obtain ⟨s, hs, h⟩ := h
        have h1 := hρ _ _ hx
        have h2 := hρ _ _ hi
        generalize hy : ρ' x = y at h1
        generalize hj : ρ' i = j at h2
        cases h1 with
        | agg hl hh =>
          rename_i a b
          cases h2
          obtain ⟨v', k1, k2⟩ := partV_run (P := P) (b := ⟨b⟩) ⟨hl, hh⟩ h
          refine ⟨v', k1, exec_value (s := Instr.index t (ρ' x) (ρ' i)) rfl ?_⟩
          rw [hy, hj]
          simp [Instr.index, asIntOf, run_underlying' ht, hc, sizeB_run hs, k2 w]
      · cases h
    · rename_i s k i' ht hx hi
      split at h
      · rename_i hc
        replace h := ob_some h
        obtain ⟨b, hb, h⟩ := h
        cases h
        have h1 := hρ _ _ hx
        have h2 := hρ _ _ hi
        generalize hy : ρ' x = y at h1
        generalize hj : ρ' i = j at h2
        cases h1
        cases h2
        refine ⟨_, .int _ _, exec_value (s := Instr.index t (ρ' x) (ρ' i)) rfl ?_⟩
        rw [hy, hj]
        rw [nth_eq] at hb
        have hb' : s[i'.toNat]? = some b := by
          have hlt : i'.toNat < s.size := by
            exact (List.getElem?_eq_some_iff.1 hb).1
          rw [getElem?_pos s i'.toNat hlt]
          have := (List.getElem?_eq_some_iff.1 hb).2
          congr 1
        simp [Instr.index, asIntOf, run_underlying' ht, hc, hb']
      · cases h
    · cases h
  case lookup t x k ok =>
    split at h
    · rename_i kt e m k0 ht hx hk
      split at h
      · rename_i kd hkd
        split at h
        · rename_i hkk
          replace h := ob_some h
          obtain ⟨es, hes, h⟩ := h
          replace h := ob_some h
          obtain ⟨r, hrr, h⟩ := h
          have h1 := hρ _ _ hx
          have h2 := hρ _ _ hk
          generalize hy : ρ' x = y at h1
          generalize hj : ρ' k = j at h2
          have hck : ∀ (b : Bool) (n : Nat), (Instr.checkKey b (n + 1) kt j).run P w = .ok () w := fun b n => by
            unfold Instr.checkKey
            simp only [Sem.run_bind, run_underlying' hkd, Result.andThen_ok]
            cases kd <;> first | (simp [keyKind] at hkk; done) | rfl
          have key : ∀ (es' : List MapEntry), ESR φ es.1 es' → (Instr.findKey kt j es').run P w = (match Instr.findNow kd j es' 0 with | some q => .ok q w | none => (Instr.findAsking kt j es').run P w) := fun es' _ => by
            unfold Instr.findKey
            simp only [Sem.run_bind, run_underlying' hkd, Result.andThen_ok]
            split <;> simp_all
          have fin : ∀ (es' : List MapEntry), ESR φ es.1 es' → ∃ r', (Instr.findKey kt j es').run P w = .ok r' w ∧ ((∃ z u u', r' = some (z, u') ∧ VR φ u u' ∧ v = tupOk ok u true) ∨ (r' = none ∧ ∃ z, zeroB P e = some z ∧ v = tupOk ok z false)) := by
            intro es' hE
            obtain ⟨r', q1, q2⟩ := findV_run h2 hE hrr
            refine ⟨r', by rw [key es' hE, q1], ?_⟩
            cases r with
            | none =>
              cases r' with
              | some z => exact q2.elim
              | none =>
                simp only at h
                replace h := ob_some h
                obtain ⟨z, hz, h⟩ := h
                cases h
                exact .inr ⟨rfl, z, hz, rfl⟩
            | some rv =>
              cases r' with
              | none => exact q2.elim
              | some z =>
                simp only at h
                cases h
                exact .inl ⟨z.1, rv.2, z.2, rfl, q2.2, rfl⟩
          rcases entriesV_run (P := P) hr h1 hes with ⟨rfl, rfl, rfl⟩ | ⟨r1, b, es', c, rfl, hb, rfl, -, ho, hc, hE⟩
          · obtain ⟨r', f1, f2⟩ := fin [] ⟨rfl, fun i x y hx => by simp at hx⟩
            have hx' : execOp ρ' ⟨dst, .lookup t x k ok, ty, pos, after, guard⟩ = (do pure (.value (← Instr.lookup t (.map none) j ok))) := by rw [← hy, ← hj]; rfl
            rcases f2 with ⟨z, u, u', rfl, hu, rfl⟩ | ⟨rfl, z, hz, rfl⟩
            · refine ⟨tupOk ok u' true, tupOk_VR hu, exec_value hx' ?_⟩
              unfold Instr.lookup
              simp only [Sem.run_bind, run_underlying' ht, Result.andThen_ok, Sem.run_pure]
              rw [show (10000 : Nat) = 9999 + 1 from rfl, hck]
              simp only [Result.andThen_ok, show (#[] : Array MapEntry).toList = [] from rfl, f1, Sem.run_pure]
              cases ok <;> rfl
            · obtain ⟨z1, z2⟩ := zeroB_run hz w
              refine ⟨tupOk ok z false, tupOk_VR (VR.self 20 z z2), exec_value hx' ?_⟩
              unfold Instr.lookup
              simp only [Sem.run_bind, run_underlying' ht, Result.andThen_ok, Sem.run_pure]
              rw [show (10000 : Nat) = 9999 + 1 from rfl, hck]
              simp only [Result.andThen_ok, show (#[] : Array MapEntry).toList = [] from rfl, f1, Sem.run_bind, z1, Sem.run_pure]
              cases ok <;> rfl
          · obtain ⟨r', f1, f2⟩ := fin es'.toList hE
            have hx' : execOp ρ' ⟨dst, .lookup t x k ok, ty, pos, after, guard⟩ = (do pure (.value (← Instr.lookup t (.map (some b)) j ok))) := by rw [← hy, ← hj]; rfl
            have hg : (getObj b).run P w = .ok (.map es' c) w := by simp [getObj, Sem.run, ho]
            rcases f2 with ⟨z, u, u', rfl, hu, rfl⟩ | ⟨rfl, z, hz, rfl⟩
            · refine ⟨tupOk ok u' true, tupOk_VR hu, exec_value hx' ?_⟩
              unfold Instr.lookup
              simp only [Sem.run_bind, run_underlying' ht, Result.andThen_ok, hg, Sem.run_pure]
              rw [show (10000 : Nat) = 9999 + 1 from rfl, hck]
              simp only [Result.andThen_ok, f1, Sem.run_pure]
              cases ok <;> rfl
            · obtain ⟨z1, z2⟩ := zeroB_run hz w
              refine ⟨tupOk ok z false, tupOk_VR (VR.self 20 z z2), exec_value hx' ?_⟩
              unfold Instr.lookup
              simp only [Sem.run_bind, run_underlying' ht, Result.andThen_ok, hg, Sem.run_pure]
              rw [show (10000 : Nat) = 9999 + 1 from rfl, hck]
              simp only [Result.andThen_ok, f1, Sem.run_bind, z1, Sem.run_pure]
              cases ok <;> rfl
        · cases h
      · cases h
    · cases h
  case typeAssert x xt want ok =>
    split at h
    · rename_i ms t v0 hw hx
      replace h := ob_some h
      obtain ⟨i, hi, h⟩ := h
      have h1 := hρ _ _ hx
      generalize hy : ρ' x = y at h1
      cases h1 with
      | iface _ hv =>
        rename_i v1
        split at h
        · rename_i hm
          cases h
          refine ⟨tupOk ok (.iface t v1) true, tupOk_VR (.iface t hv), exec_value (s := Instr.typeAssert (ρ' x) xt want ok) rfl ?_⟩
          rw [hy]
          simp only [Instr.typeAssert, Sem.run_bind, run_underlying' hw, Result.andThen_ok, run_typeInfo' hi, hm, Sem.run_pure]
          cases ok <;> rfl
        · rename_i mm hm
          split at h
          · replace h := ob_some h
            obtain ⟨z, hz, h⟩ := h
            cases h
            obtain ⟨z1, z2⟩ := zeroB_run hz w
            refine ⟨.tuple ⟨[z, .bool false]⟩, VR.ofTuple (LR.cons (VR.self 20 z z2) (LR.cons (.bool _) LR.nil)), exec_value (s := Instr.typeAssert (ρ' x) xt want true) rfl ?_⟩
            rw [hy]
            simp [Instr.typeAssert, run_underlying' hw, run_typeInfo' hi, hm, z1]
          · cases h
    · rename_i d hw hx
      split at h
      · replace h := ob_some h
        obtain ⟨z, hz, h⟩ := h
        cases h
        have h1 := hρ _ _ hx
        generalize hy : ρ' x = y at h1
        cases h1
        obtain ⟨z1, z2⟩ := zeroB_run hz w
        refine ⟨.tuple ⟨[z, .bool false]⟩, VR.ofTuple (LR.cons (VR.self 20 z z2) (LR.cons (.bool _) LR.nil)), exec_value (s := Instr.typeAssert (ρ' x) xt want true) rfl ?_⟩
        rw [hy]
        cases d <;> simp [Instr.typeAssert, run_underlying' hw, z1]
      · cases h
    · rename_i d t v0 hni hw hx
      have h1 := hρ _ _ hx
      generalize hy : ρ' x = y at h1
      cases h1 with
      | iface _ hv =>
        rename_i v1
        split at h
        · rename_i ht
          cases h
          have := Nat.eq_of_beq_eq_true ht
          subst this
          refine ⟨tupOk ok v1 true, tupOk_VR hv, exec_value (s := Instr.typeAssert (ρ' x) xt t ok) rfl ?_⟩
          rw [hy]
          cases d <;> first
            | (exfalso; first | exact hni _ _ _ rfl hx | exact hni _ rfl)
            | (simp only [Instr.typeAssert, Sem.run_bind, run_underlying' hw, Result.andThen_ok, if_true, Sem.run_pure]; cases ok <;> rfl)
        · rename_i ht
          have hne : t ≠ want := fun he => by rw [he, Nat.beq_refl] at ht; cases ht
          split at h
          · replace h := ob_some h
            obtain ⟨z, hz, h⟩ := h
            cases h
            obtain ⟨z1, z2⟩ := zeroB_run hz w
            refine ⟨.tuple ⟨[z, .bool false]⟩, VR.ofTuple (LR.cons (VR.self 20 z z2) (LR.cons (.bool _) LR.nil)), exec_value (s := Instr.typeAssert (ρ' x) xt want true) rfl ?_⟩
            rw [hy]
            cases d <;> first
              | (exfalso; first | exact hni _ _ _ rfl hx | exact hni _ rfl)
              | simp [Instr.typeAssert, run_underlying' hw, hne, z1]
          · cases h
    · cases h
  case extract x i =>
    split at h
    · rename_i vs hx
      have h1 := hρ _ _ hx
      generalize hy : ρ' x = y at h1
      cases h1 with
      | tuple hl hh =>
        rename_i a b
        obtain ⟨u, hu, hv⟩ := list_at (b := ⟨b⟩) ⟨hl, hh⟩ h
        refine ⟨u, hv, exec_value (s := Instr.extract (ρ' x) i) rfl ?_⟩
        rw [hy]
        unfold Instr.extract
        simp only [hu]
        rfl
    · cases h
  case call c =>
    obtain ⟨callee, args, ats⟩ := c
    cases callee <;> simp only at h <;> first | (cases h; done) | skip
    rename_i b
    cases b <;> simp only at h <;> first | (cases h; done) | skip
    case len =>
      replace h := ob_some h
      obtain ⟨r, hr0, h⟩ := h
      replace h := ob_some h
      obtain ⟨x, hx, h⟩ := h
      replace h := ob_some h
      obtain ⟨t, ht, h⟩ := h
      obtain ⟨y, hy, hv⟩ := list_at (args_run hρ hr0) hx
      rw [nth_eq] at ht
      obtain ⟨v', h1, h2⟩ := lenV_run (P := P) (ts := ats) (ty := ty) (args := args.map ρ') hr (by simpa using ht) hy hv h
      refine ⟨v', h1, ?_⟩
      simp [execOp, resolve, invoke, builtin, h2]
    case max =>
      replace h := ob_some h
      obtain ⟨r, hr0, h⟩ := h
      split at h
      · rename_i hp
        obtain ⟨h1, h2⟩ := pureV_run (φ := φ) h
        have := LR.same hp (args_run hρ hr0)
        subst this
        refine ⟨v, h1, ?_⟩
        have h3 := h2 w
        simp only [Array.toList_map] at h3
        have e : (⟨List.map ρ' args.toList⟩ : Array Value) = args.map ρ' := by apply Array.ext'; simp
        rw [e] at h3
        simp [execOp, resolve, invoke, builtin, h3]
      · cases h
    case min =>
      replace h := ob_some h
      obtain ⟨r, hr0, h⟩ := h
      split at h
      · rename_i hp
        obtain ⟨h1, h2⟩ := pureV_run (φ := φ) h
        have := LR.same hp (args_run hρ hr0)
        subst this
        refine ⟨v, h1, ?_⟩
        have h3 := h2 w
        simp only [Array.toList_map] at h3
        have e : (⟨List.map ρ' args.toList⟩ : Array Value) = args.map ρ' := by apply Array.ext'; simp
        rw [e] at h3
        simp [execOp, resolve, invoke, builtin, h3]
      · cases h
end Go.Proofs.YtjkifbkehochoaaGreatDoor.Ev
