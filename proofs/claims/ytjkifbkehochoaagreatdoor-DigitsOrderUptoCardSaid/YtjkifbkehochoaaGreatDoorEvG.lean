/- The evaluator of closed calls, part EvG. -/
import Derived.Test.YtjkifbkehochoaaGreatDoorEvF
set_option linter.unusedSimpArgs false
set_option linter.unusedVariables false
namespace Go.Proofs.YtjkifbkehochoaaGreatDoor.Ev
open Go.RowKit
theorem plainAll_self {φ : Ren} {a : List Value} (hp : plainAll a = true) : LR φ a a := by
  refine ⟨rfl, fun i x y hx hy => ?_⟩
  rw [hx] at hy
  cases hy
  exact VR.self 20 x (List.all_eq_true.1 hp x (List.mem_of_getElem? hx))
theorem plainF_self {φ : Ren} {v : Value} (h : plainF v = true) : VR φ v v := VR.self 20 v (by rw [← plainF_eq]; exact h)
theorem plainF_same {φ : Ren} {v v' : Value} (h : plainF v = true) (hv : VR φ v v') : v = v' := VR.same 20 v v' (by rw [← plainF_eq]; exact h) hv
/-- a call of plain values that gives a plain value and touches nothing that was there -/
structure PlainOK (P : Program) (f : FuncId) (args : List Value) (v : Value) : Prop where
  pargs : plainAll args = true
  pval : plainF v = true
  calls : ∀ w, Calls P f ⟨args⟩ w fun e w' => e = .returned v ∧ Below w.heap.size w w'
theorem belowStep {φ : Ren} {C : Nat → Option Blk} {n : Nat} {w w' : World} (hr : HR φ C n w) (h : Below w.heap.size w w') : Step φ C n w φ C n w' := by
  refine ⟨⟨hr.bnd, hr.ro, fun i b hi => ⟨(hr.lt i b hi).1, by have := (hr.lt i b hi).2; have := h.size; omega⟩, hr.inj, fun i b hi => ?_⟩, φ.le_refl, fun _ _ _ h => h, Nat.le_refl _, fun _ _ h => h, fun _ _ h => h, fun i b hi hb => absurd (hr.lt i b hb).1 (by omega), h.size, fun b hb _ => h.block b hb, ⟨h.os, h.tape, h.output⟩⟩
  rw [h.block b (hr.lt i b hi).2]
  exact hr.row i b hi
theorem PlainOK.call {P : Program} {f : FuncId} {args : List Value} {v : Value} (h : PlainOK P f args v) {φ : Ren} {C : Nat → Option Blk} {n : Nat} {args' : List Value} {w : World} (hr : HR φ C n w) (ha : LR φ args args') :
    Calls P f ⟨args'⟩ w fun e w' => ∃ φ' v', e = .returned v' ∧ VR φ' v v' ∧ Step φ C n w φ' C n w' := by
  have e := LR.same h.pargs ha
  subst e
  refine (h.calls w).mono ?_
  rintro e w' ⟨rfl, hb⟩
  exact ⟨φ, v, rfl, plainF_self h.pval, belowStep hr hb⟩
/-- a table of such calls -/
noncomputable def SmT (l : List (FuncId × List Value × Value)) : CallF := fun f args h =>
  List.rec (motive := fun _ => Option (Value × Hp)) none (fun e _ ih => match Nat.beq e.1 f with
    | false => ih
    | true => match listB (veq 64) e.2.1 args with
      | true => some (e.2.2, h)
      | false => ih) l
theorem SmT_ok {P : Program} {l : List (FuncId × List Value × Value)} (hl : ∀ e ∈ l, PlainOK P e.1 e.2.1 e.2.2) : CallOK P (SmT l) := by
  intro f args h v h' hh φ args' w hr ha
  induction l with
  | nil => cases hh
  | cons e l ih =>
    replace hh : (match Nat.beq e.1 f with
      | false => SmT l f args h
      | true => match listB (veq 64) e.2.1 args with
        | true => some (e.2.2, h)
        | false => SmT l f args h) = some (v, h') := hh
    have ih := ih (fun e he => hl e (List.mem_cons_of_mem _ he))
    split at hh
    · exact ih hh
    · rename_i hf
      split at hh
      · rename_i ha'
        cases hh
        have h1 := Nat.eq_of_beq_eq_true hf
        have h2 := listB_spec (fun a b h => veq_spec h) ha'
        subst h1
        subst h2
        exact (hl e (List.mem_cons_self ..)).call hr ha
      · exact ih hh
def OKs (P : Program) (l : List (FuncId × List Value × Value)) : Prop := ∀ e ∈ l, PlainOK P e.1 e.2.1 e.2.2
theorem OKs.nil {P : Program} : OKs P [] := fun _ h => nomatch h
theorem OKs.cons {P : Program} {e : FuncId × List Value × Value} {l : List (FuncId × List Value × Value)} (h : PlainOK P e.1 e.2.1 e.2.2) (k : OKs P l) : OKs P (e :: l) := fun x hx => by
  rcases List.mem_cons.1 hx with rfl | hx
  · exact h
  · exact k x hx
theorem OKs.ok {P : Program} {l : List (FuncId × List Value × Value)} (h : OKs P l) : CallOK P (SmT l) := SmT_ok h
noncomputable def isV (o : Option (Value × Hp)) (v : Value) : Bool := match o with
  | some (a, _) => veq 64 a v
  | none => false
noncomputable def gives (P : Program) (X : FuncId → List Value → Option Value) (Sm : CallF) (d : Nat) (f : FuncId) (args : List Value) (v : Value) : Bool :=
  match plainAll args && plainF v with
  | true => isV (evCall P X Sm (evD P X) d f args (Hp.nil 0)) v
  | false => false
theorem gives_ok {P : Program} {X : FuncId → List Value → Option Value} {Sm : CallF} (hX : ExtOK P X) (hS : CallOK P Sm) (hm : P.follows .mixedOrders = true) {d : Nat} {f : FuncId} {args : List Value} {v : Value} (h : gives P X Sm d f args v = true) : PlainOK P f args v := by
  unfold gives at h
  split at h
  · rename_i hp
    obtain ⟨p1, p2⟩ := Bool.and_eq_true_iff.1 hp
    refine ⟨p1, p2, fun w => ?_⟩
    unfold isV at h
    split at h
    · rename_i a h' he
      have := veq_spec h
      subst this
      refine (evCall_ok hX hS (fun call hC => evD_ok hX hC hm) d f args (Hp.nil 0) _ h' he Ren.nil args w (HR.nil w) (plainAll_self p1)).mono ?_
      rintro e w' ⟨φ', v', rfl, hv, hs⟩
      have := plainF_same p2 hv
      subst this
      exact ⟨rfl, hs.same.os, hs.same.tape, hs.same.output, hs.size, fun k hk => hs.frame k hk fun i hi => by cases (show (none : Option Nat) = some k from hi)⟩
    · cases h
  · cases h
end Go.Proofs.YtjkifbkehochoaaGreatDoor.Ev
namespace Go.Proofs.YtjkifbkehochoaaGreatDoor.Ev
/-- a function that the model itself answers -/
def IsExt (P : Program) (f : FuncId) (e : Array Value → Sem Value) : Prop :=
  ∃ fn, P.funcs[f]? = some fn ∧ (fn.name == "runtime.NumGoroutine") = false ∧ fn.body.isNone = true ∧ Extern.findNext fn = none ∧ Extern.find fn = some e
noncomputable def XT (P : Program) (l : List (FuncId × (Array Value → Sem Value))) (f : FuncId) (args : List Value) : Option Value :=
  List.rec (motive := fun _ => Option Value) none (fun r _ ih => match Nat.beq r.1 f with
    | false => ih
    | true => match plainAll args with
      | true => pureV P (r.2 ⟨args⟩)
      | false => none) l
theorem ext_run {P : Program} {f : FuncId} {e : Array Value → Sem Value} (h : IsExt P f e) {args : Array Value} {v : Value} {w : World} (hv : ∀ w, (e args).run P w = .ok v w) : (callFunc f args).run P w = .ok (.value v) w := by
  obtain ⟨fn, h1, h2, h3, h4, h5⟩ := h
  have hp : ∀ w, (program : Sem Program).run P w = .ok P w := fun w => rfl
  have hm : ∀ m w, (mark m).run P w = .ok () w := fun m w => rfl
  unfold callFunc
  simp only [Sem.run_bind, hp, Result.andThen_ok, h1]
  rw [if_neg (by rw [h2]; exact Bool.false_ne_true), if_pos h3]
  simp only [Sem.run_bind, hm, Result.andThen_ok, h4, h5, hv, Sem.run_pure]
theorem XT_ok {P : Program} {l : List (FuncId × (Array Value → Sem Value))} (hl : ∀ r ∈ l, IsExt P r.1 r.2) : ExtOK P (XT P l) := by
  intro f args v hh φ args' ha
  induction l with
  | nil => cases hh
  | cons r l ih =>
    replace hh : (match Nat.beq r.1 f with
      | false => XT P l f args
      | true => match plainAll args with
        | true => pureV P (r.2 ⟨args⟩)
        | false => none) = some v := hh
    split at hh
    · exact ih (fun e he => hl e (List.mem_cons_of_mem _ he)) hh
    · rename_i hf
      split at hh
      · rename_i hp
        have h1 := Nat.eq_of_beq_eq_true hf
        subst h1
        have h2 := LR.same hp ha
        subst h2
        obtain ⟨a, b⟩ := pureV_run (φ := φ) hh
        exact ⟨v, a, fun w => ext_run (hl r (List.mem_cons_self ..)) b⟩
      · cases hh
end Go.Proofs.YtjkifbkehochoaaGreatDoor.Ev
namespace Go.Proofs.YtjkifbkehochoaaGreatDoor.Ev
open Go.RowKit
/-- globals whose cells are known -/
def Laid (w : World) (G : List (Nat × List Value)) : Prop := ∀ p ∈ G, ∃ c e f, w.heap[p.1]? = some (.cells c e f) ∧ ∀ (i : Nat) (x : Value), p.2[i]? = some x → c[i]? = some x
noncomputable def hpG (n : Nat) (G : List (Nat × List Value)) : Hp := List.rec (motive := fun _ => Hp) (Hp.nil n) (fun p _ ih => ih.put p.1 (.ro p.2)) G
noncomputable def okG (n : Nat) (G : List (Nat × List Value)) : Bool := Nat.ble n 65536 && allB (fun p => Nat.ble (Nat.add p.1 1) n) G
theorem hpG_n (n : Nat) : ∀ G, (hpG n G).n = n
  | [] => rfl
  | p :: G => hpG_n n G
theorem hpG_get {n : Nat} (hn : n ≤ 65536) : ∀ {G : List (Nat × List Value)}, (∀ p ∈ G, p.1 < n) → ∀ i B, (hpG n G).get i = some B → ∃ p ∈ G, p.1 = i ∧ B = .ro p.2
  | [], _, i, B, h => by rw [show (hpG n []).get i = (Hp.nil n).get i from rfl, Hp.nil_get] at h; cases h
  | p :: G, hG, i, B, h => by
    replace h : ((hpG n G).put p.1 (.ro p.2)).get i = some B := h
    rw [Hp.get_put _ _ (by have := hG p (List.mem_cons_self ..); omega)] at h
    split at h
    · rename_i e
      cases h
      exact ⟨p, List.mem_cons_self .., e.symm, rfl⟩
    · obtain ⟨q, h1, h2⟩ := hpG_get hn (fun q hq => hG q (List.mem_cons_of_mem _ hq)) i B h
      exact ⟨q, List.mem_cons_of_mem _ h1, h2⟩
open Classical in
noncomputable def renG (h : Hp) : Ren := ⟨fun i => if h.get i = none then none else some i, fun _ => 0⟩
theorem HR.laid {n : Nat} {G : List (Nat × List Value)} (hk : okG n G = true) {w : World} (hl : Laid w G) : HR (renG (hpG n G)) (hpG n G).get (hpG n G).n w := by
  obtain ⟨k1, k2⟩ := Bool.and_eq_true_iff.1 hk
  have k1 := Nat.le_of_ble_eq_true k1
  have hG : ∀ p ∈ G, p.1 < n := fun p hp => Nat.le_of_ble_eq_true (allB_spec k2 p hp)
  have some_of : ∀ i b, (renG (hpG n G)) i = some b → b = i ∧ ∃ p ∈ G, p.1 = i ∧ (hpG n G).get i = some (.ro p.2) := fun i b h => by
    replace h : (if (hpG n G).get i = none then none else some i) = some b := h
    split at h
    · cases h
    · rename_i hne
      cases h
      cases hg : (hpG n G).get i with
      | none => exact absurd hg hne
      | some B =>
        obtain ⟨p, h1, h2, h3⟩ := hpG_get k1 hG i B hg
        exact ⟨rfl, p, h1, h2, by rw [h3]⟩
  rw [hpG_n]
  refine ⟨k1, fun i cs h => ?_, fun i b h => ?_, fun i j b hi hj _ _ => ?_, fun i b h => ?_⟩
  · obtain ⟨p, h1, h2, -⟩ := hpG_get k1 hG i _ h
    exact ⟨by rw [← h2]; exact hG p h1, by show (if (hpG n G).get i = none then none else some i) = some i; rw [if_neg (by rw [h]; simp)]⟩
  · obtain ⟨rfl, p, h1, h2, -⟩ := some_of i b h
    obtain ⟨c, e, f, h3, -⟩ := hl p h1
    rw [h2] at h3
    exact ⟨by rw [← h2]; exact hG p h1, (Array.getElem?_eq_some_iff.1 h3).1⟩
  · obtain ⟨rfl, -⟩ := some_of i b hi
    exact (some_of j _ hj).1
  · obtain ⟨rfl, p, h1, h2, h3⟩ := some_of i b h
    rw [h3]
    obtain ⟨c, e, f, h4, h5⟩ := hl p h1
    rw [h2] at h4
    refine ⟨c, e, f, h4, h5⟩
/-- a call of plain values, where globals are laid -/
noncomputable def givesG (P : Program) (X : FuncId → List Value → Option Value) (Sm : CallF) (n : Nat) (G : List (Nat × List Value)) (d : Nat) (f : FuncId) (args : List Value) (v : Value) : Bool :=
  match plainAll args && plainF v && okG n G with
  | true => isV (evCall P X Sm (evD P X) d f args (hpG n G)) v
  | false => false
theorem givesG_ok {P : Program} {X : FuncId → List Value → Option Value} {Sm : CallF} (hX : ExtOK P X) (hS : CallOK P Sm) (hm : P.follows .mixedOrders = true) {n : Nat} {G : List (Nat × List Value)} {d : Nat} {f : FuncId} {args : List Value} {v : Value} (h : givesG P X Sm n G d f args v = true) {w : World} (hl : Laid w G) :
    Calls P f ⟨args⟩ w fun e w' => e = .returned v ∧ Below w.heap.size w w' := by
  unfold givesG at h
  split at h
  · rename_i hp
    obtain ⟨hp, p3⟩ := Bool.and_eq_true_iff.1 hp
    obtain ⟨p1, p2⟩ := Bool.and_eq_true_iff.1 hp
    unfold isV at h
    split at h
    · rename_i a h' he
      have := veq_spec h
      subst this
      have hr := HR.laid p3 hl
      refine (evCall_ok hX hS (fun call hC => evD_ok hX hC hm) d f args (hpG n G) _ h' he _ args w hr (plainAll_self p1)).mono ?_
      rintro e w' ⟨φ', v', rfl, hv, hs⟩
      have := plainF_same p2 hv
      subst this
      refine ⟨rfl, hs.same.os, hs.same.tape, hs.same.output, hs.size, fun k hk => hs.frame k hk fun i hi hlv => ?_⟩
      cases hg : (hpG n G).get i with
      | none => rw [hg] at hlv; exact hlv
      | some B =>
        obtain ⟨k1, k2⟩ := Bool.and_eq_true_iff.1 p3
        obtain ⟨p, -, -, h3⟩ := hpG_get (Nat.le_of_ble_eq_true k1) (fun p hp => Nat.le_of_ble_eq_true (allB_spec k2 p hp)) i B hg
        rw [hg, h3] at hlv
        exact hlv
    · cases h
  · cases h
end Go.Proofs.YtjkifbkehochoaaGreatDoor.Ev
namespace Go.Proofs.YtjkifbkehochoaaGreatDoor.Ev
open Go.RowKit
noncomputable def hasG (h : Hp) (G : List (Nat × List Value)) : Bool := allB (fun p => match h.get p.1 with
  | some (.ro cs) => listB (veq 64) p.2 cs
  | _ => false) G
theorem hasG_laid {φ : Ren} {h : Hp} {n : Nat} {w : World} (hr : HR φ h.get n w) {G : List (Nat × List Value)} (hg : hasG h G = true) : Laid w G := by
  intro p hp
  have := allB_spec hg p hp
  split at this
  · rename_i cs hc
    have e := listB_spec (fun a b h => veq_spec h) this
    subst e
    have hrow := hr.row _ _ (hr.ro _ _ hc).2
    rw [hc] at hrow
    obtain ⟨c, e, f, h1, h2⟩ := hrow
    exact ⟨c, e, f, h1, h2⟩
  · cases this
/-- a call of plain values, where the globals G are laid -/
structure PlainG (P : Program) (G : List (Nat × List Value)) (f : FuncId) (args : List Value) (v : Value) : Prop where
  pargs : plainAll args = true
  pval : plainF v = true
  calls : ∀ w, Laid w G → Calls P f ⟨args⟩ w fun e w' => e = .returned v ∧ Below w.heap.size w w'
theorem givesG_plain {P : Program} {X : FuncId → List Value → Option Value} {Sm : CallF} (hX : ExtOK P X) (hS : CallOK P Sm) (hm : P.follows .mixedOrders = true) {n : Nat} {G : List (Nat × List Value)} {d : Nat} {f : FuncId} {args : List Value} {v : Value} (h : givesG P X Sm n G d f args v = true) : PlainG P G f args v := by
  have h0 := h
  unfold givesG at h
  split at h
  · rename_i hp
    obtain ⟨hp, p3⟩ := Bool.and_eq_true_iff.1 hp
    obtain ⟨p1, p2⟩ := Bool.and_eq_true_iff.1 hp
    exact ⟨p1, p2, fun w hl => givesG_ok hX hS hm h0 hl⟩
  · cases h
theorem PlainG.plain {P : Program} {f : FuncId} {args : List Value} {v : Value} (h : PlainG P [] f args v) : PlainOK P f args v := ⟨h.pargs, h.pval, fun w => h.calls w fun _ hp => nomatch hp⟩
/-- a table of such calls -/
noncomputable def SmG (l : List (List (Nat × List Value) × FuncId × List Value × Value)) : CallF := fun f args h =>
  List.rec (motive := fun _ => Option (Value × Hp)) none (fun e _ ih => match Nat.beq e.2.1 f with
    | false => ih
    | true => match listB (veq 64) e.2.2.1 args with
      | true => match hasG h e.1 with
        | true => some (e.2.2.2, h)
        | false => ih
      | false => ih) l
def OKG (P : Program) (l : List (List (Nat × List Value) × FuncId × List Value × Value)) : Prop := ∀ e ∈ l, PlainG P e.1 e.2.1 e.2.2.1 e.2.2.2
theorem OKG.nil {P : Program} : OKG P [] := fun _ h => nomatch h
theorem OKG.cons {P : Program} {e : List (Nat × List Value) × FuncId × List Value × Value} {l : List (List (Nat × List Value) × FuncId × List Value × Value)} (h : PlainG P e.1 e.2.1 e.2.2.1 e.2.2.2) (k : OKG P l) : OKG P (e :: l) := fun x hx => by
  rcases List.mem_cons.1 hx with rfl | hx
  · exact h
  · exact k x hx
theorem OKG.ok {P : Program} {l : List (List (Nat × List Value) × FuncId × List Value × Value)} (hl : OKG P l) : CallOK P (SmG l) := by
  intro f args h v h' hh φ args' w hr ha
  induction l with
  | nil => cases hh
  | cons e l ih =>
    replace hh : (match Nat.beq e.2.1 f with
      | false => SmG l f args h
      | true => match listB (veq 64) e.2.2.1 args with
        | true => match hasG h e.1 with
          | true => some (e.2.2.2, h)
          | false => SmG l f args h
        | false => SmG l f args h) = some (v, h') := hh
    have ih := ih (fun e he => hl e (List.mem_cons_of_mem _ he))
    split at hh
    · exact ih hh
    · rename_i hf
      split at hh
      · rename_i ha'
        split at hh
        · rename_i hg
          cases hh
          have h1 := Nat.eq_of_beq_eq_true hf
          have h2 := listB_spec (fun a b h => veq_spec h) ha'
          subst h1
          subst h2
          have hp := hl e (List.mem_cons_self ..)
          have e' := LR.same hp.pargs ha
          subst e'
          refine (hp.calls w (hasG_laid hr hg)).mono ?_
          rintro r w' ⟨rfl, hb⟩
          exact ⟨φ, _, rfl, plainF_self hp.pval, belowStep hr hb⟩
        · exact ih hh
      · exact ih hh
end Go.Proofs.YtjkifbkehochoaaGreatDoor.Ev
namespace Go.Proofs.YtjkifbkehochoaaGreatDoor.Ev
open Go.RowKit
theorem writeRow_there {φ : Ren} {h h' : Hp} {w : World} (hr : HR φ h.get h.n w) {id b off : Nat} {v : Value} (hb : φ.f id = some b) (hh : writeRow h id off [v] = some h') :
    (∃ old, w.cell? ⟨b, off, none⟩ = some old) ∧ w.frozen? ⟨b, off, none⟩ = false := by
  unfold writeRow at hh
  split at hh
  · rename_i cs e ex fz hone hC
    split at hh
    · rename_i hfz
      replace hh := ob_some hh
      obtain ⟨r, hr1, hh⟩ := hh
      cases hh
      obtain ⟨o1, o2, o3⟩ := over_spec _ _ _ _ hr1
      have hrow := hr.row id b hb
      rw [hC] at hrow
      obtain ⟨c, f, q1, q2, q3, q4⟩ := hrow
      have hlt : off < cs.length := by simp at o2; omega
      obtain ⟨y, hy, -⟩ := q3 off cs[off] (List.getElem?_eq_getElem hlt)
      have hcs := (Array.getElem?_eq_some_iff.1 hy).1
      refine ⟨⟨y, by simp [World.cell?, q1, hy]⟩, ?_⟩
      obtain ⟨lo, hi⟩ := f
      simp only [World.frozen?, q1]
      cases fz with
      | none => cases q4; simp
      | some k =>
        have := Nat.le_of_ble_eq_true hfz
        have := q4 off (by omega) (by omega)
        simp only at this
        simp
        omega
    · cases hh
  · cases hh
/-- errors.As at an error whose own type is the target's -/
def AsHit (P : Program) (f : FuncId) (g : Nat) (hv : Value) (T TT : TypeId) : Prop :=
  ∀ (e t : Addr) (old : Value) (w : World), w.cell? ⟨g, 0, none⟩ = some hv → w.cell? t = some old → w.frozen? t = false →
    Calls P f #[.iface T (.pointer (some e)), .iface TT (.pointer (some t))] w fun ev w' => ev = .returned (.bool true) ∧ ∃ w1, Below w.heap.size w w1 ∧ w' = w1.setCell t (.pointer (some e))
noncomputable def SmAs (fA : FuncId) (g : Nat) (hv : Value) (T TT : TypeId) : CallF := fun f args h =>
  match Nat.beq f fA with
  | false => none
  | true => match args with
    | [.iface t (.pointer (some ⟨eid, eoff, none⟩)), .iface tp (.pointer (some ⟨aid, aoff, none⟩))] =>
      match Nat.beq t T && Nat.beq tp TT && hasG h [(g, [hv])] with
      | true => ob (writeRow h aid aoff [.pointer (some ⟨eid, eoff, none⟩)]) fun h' => some (.bool true, h')
      | false => none
    | _ => none
theorem SmAs_ok {P : Program} {fA : FuncId} {g : Nat} {hv : Value} {T TT : TypeId} (hA : AsHit P fA g hv T TT) : CallOK P (SmAs fA g hv T TT) := by
  intro f args h v h' hh φ args' w hr ha
  unfold SmAs at hh
  split at hh
  · cases hh
  · rename_i hf
    have hf := Nat.eq_of_beq_eq_true hf
    subst hf
    split at hh
    · rename_i t eid eoff tp aid aoff
      split at hh
      · rename_i hc
        simp only [Bool.and_eq_true] at hc
        obtain ⟨⟨c1, c2⟩, c3⟩ := hc
        have c1 := Nat.eq_of_beq_eq_true c1
        have c2 := Nat.eq_of_beq_eq_true c2
        subst c1
        subst c2
        obtain ⟨h1, e1, hh⟩ := ob_some hh
        cases hh
        obtain ⟨x, l2, rfl, hx, hrest⟩ := ha.uncons
        obtain ⟨y, l3, rfl, hy, hrest2⟩ := hrest.uncons
        have : l3 = [] := by have := hrest2.1; cases l3 with | nil => rfl | cons _ _ => simp at this
        subst this
        cases hx with
        | @iface _ _ x' hx' =>
        cases hy with
        | @iface _ _ y' hy' =>
        have hx0 := hx'
        cases hx' with
        | @ptr _ _ eb heb =>
        cases hy' with
        | @ptr _ _ ab hab =>
        obtain ⟨⟨old, ho⟩, hfz⟩ := writeRow_there hr hab e1
        obtain ⟨c, e, fz, g1, g2⟩ := hasG_laid hr c3 (g, [hv]) (List.mem_singleton.2 rfl)
        have hg : w.cell? ⟨g, 0, none⟩ = some hv := by simp [World.cell?, g1, g2 0 hv rfl]
        refine (hA _ _ old w hg ho hfz).mono ?_
        rintro r w' ⟨rfl, w1, hb, rfl⟩
        have s1 := belowStep hr hb
        obtain ⟨-, k1, k2⟩ := writeRow_run (P := P) s1.hr hab (LR.cons hx0 LR.nil) e1
        exact ⟨φ, .bool true, rfl, .bool _, s1.trans k2⟩
      · cases hh
    · cases hh
noncomputable def SmOr (a b : CallF) : CallF := fun f args h => match a f args h with
  | some r => some r
  | none => b f args h
theorem CallOK.or {P : Program} {a b : CallF} (ha : CallOK P a) (hb : CallOK P b) : CallOK P (SmOr a b) := by
  intro f args h v h' hh
  unfold SmOr at hh
  split at hh
  · rename_i r hr
    cases hh
    exact ha f args h v h' hr
  · exact hb f args h v h' hh
end Go.Proofs.YtjkifbkehochoaaGreatDoor.Ev
