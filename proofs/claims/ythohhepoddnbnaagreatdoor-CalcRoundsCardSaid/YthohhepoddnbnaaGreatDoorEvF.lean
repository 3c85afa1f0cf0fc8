/- The evaluator of closed calls, part EvF. -/
import Derived.Test.YthohhepoddnbnaaGreatDoorEvE
import Derived.Defers
import Derived.Below
set_option linter.unusedSimpArgs false
set_option linter.unusedVariables false
namespace Go.Proofs.YthohhepoddnbnaaGreatDoor.Ev

inductive Ex where
  | normal
  | exit (id : Nat)
  | ret
def Ex.to : Ex → Exit
  | .normal => .normal
  | .exit id => .exit id
  | .ret => .ret
/-- what follows from a state, wherever it is met -/
def Leads (s s' : St) (φ : Ren) (w : World) (K : Act → World → Prop) : Prop :=
  ∀ φ' a' w', Step φ s.h.get s.h.n w φ' s'.h.get s'.h.n w' → AR φ' s' a' → K a' w'
abbrev DrawF := Array Oper → St → Option St
def DrawOK (P : Program) (dr : DrawF) : Prop :=
  ∀ ops s s', dr ops s = some s' → ∀ φ a w, HR φ s.h.get s.h.n w → AR φ s a → ∀ (id : Nat) (Q : Exit → Act → World → Prop), Leads s s' φ w (Q .normal) → (Code.region id ops true).wp P Q a w
noncomputable def iter (f : St → Option (Ex × St)) (n : Nat) : St → Option (Ex × St) :=
  Nat.rec (motive := fun _ => St → Option (Ex × St)) (fun _ => none) (fun _ ih s => match f s with
    | some (.normal, s) => ih s
    | r => r) n
noncomputable def evC (P : Program) (X : FuncId → List Value → Option Value) (call : CallF) (dr : DrawF) (c : Code) : St → Option (Ex × St) :=
  Code.rec (motive := fun _ => St → Option (Ex × St))
    (fun s => some (.normal, s))
    (fun _ ops d s => match d with
      | true => ob (dr ops s) fun s => some (.normal, s)
      | false => ob (evR P X call ops.toList ops.toList s) fun s => some (.normal, s))
    (fun _ _ ia ib s => match ia s with
      | some (.normal, s) => ib s
      | r => r)
    (fun c _ _ ia ib s => match opnd s c with
      | some (.bool true) => ia s
      | some (.bool false) => ib s
      | _ => none)
    (fun id _ ib s => match ib s with
      | some (.exit i, s) => match Nat.beq i id with
        | true => some (.normal, s)
        | false => some (.exit i, s)
      | r => r)
    (fun _ ib s => iter ib 1000000 s)
    (fun _ _ _ _ _ _ _ => none)
    (fun id s => some (.exit id, s))
    (fun _ _ _ => none)
    (fun _ s => some (.normal, s))
    (fun _ _ => none)
    (fun s => some (.ret, s))
    (fun _ _ => none) c
section
variable {P : Program} {X : FuncId → List Value → Option Value} {call : CallF} {dr : DrawF}
theorem Leads.mono {s s1 s' : St} {φ φ1 : Ren} {w w1 : World} {K : Act → World → Prop} (h : Leads s s' φ w K) (hs : Step φ s.h.get s.h.n w φ1 s1.h.get s1.h.n w1) : Leads s1 s' φ1 w1 K :=
  fun φ' a' w' h1 h2 => h φ' a' w' (hs.trans h1) h2
def CodeOK (P : Program) (c : Code) (f : St → Option (Ex × St)) : Prop :=
  ∀ s ex s', f s = some (ex, s') → ∀ φ a w, HR φ s.h.get s.h.n w → AR φ s a → ∀ Q : Exit → Act → World → Prop, Leads s s' φ w (Q ex.to) → c.wp P Q a w
def LoopWp (P : Program) (c : Code) (Q : Exit → Act → World → Prop) (a : Act) (w : World) : Prop :=
  ∀ (b : Frame) (k : List Item) (cs : List Frame), ∃ e a' w', Q e a' w' ∧ Arrives P (lone (b.at a (.code c :: .inLoop c :: k)) cs w) b k cs e a' w'
theorem LoopWp.wp {c : Code} {Q : Exit → Act → World → Prop} {a : Act} {w : World} (h : LoopWp P c Q a w) : (Code.loop c).wp P Q a w := fun b k cs =>
  let ⟨e, a', w', hq, harr⟩ := h b k cs
  ⟨e, a', w', hq, .of_steps (.one step_loop) harr⟩
theorem LoopWp.step {c : Code} {Q : Exit → Act → World → Prop} {a : Act} {w : World} (h : c.wp P (Exit.then (LoopWp P c Q) Q) a w) : LoopWp P c Q a w := by
  intro b k cs
  obtain ⟨e, a₁, w₁, hq, harr⟩ := h b (.inLoop c :: k) cs
  cases e with
  | normal =>
    obtain ⟨e₂, a₂, w₂, hq₂, harr₂⟩ := hq b k cs
    exact ⟨e₂, a₂, w₂, hq₂, .of_steps (Steps.trans harr (.one step_inLoop)) harr₂⟩
  | exit id => exact ⟨_, a₁, w₁, hq, .pass (x := .inLoop c) rfl (fun _ _ => .inl (by simp)) harr⟩
  | goto l => exact ⟨_, a₁, w₁, hq, .pass (x := .inLoop c) rfl (fun _ _ => .inl (by simp)) harr⟩
  | ret => exact ⟨_, a₁, w₁, hq, .pass (x := .inLoop c) rfl (fun _ _ => .inl (by simp)) harr⟩
  | panic ch => exact ⟨_, a₁, w₁, hq, .pass (x := .inLoop c) rfl (fun _ _ => .inl (by simp)) harr⟩
  | outgrown => exact ⟨_, a₁, w₁, hq, .pass (x := .inLoop c) rfl (fun _ _ => .inl (by simp)) harr⟩
theorem iter_ok {c : Code} {f : St → Option (Ex × St)} (hf : CodeOK P c f) : ∀ n s ex s', iter f n s = some (ex, s') → ∀ φ a w, HR φ s.h.get s.h.n w → AR φ s a → ∀ Q : Exit → Act → World → Prop, Leads s s' φ w (Q ex.to) → LoopWp P c Q a w := by
  intro n
  induction n with
  | zero => intro s ex s' h; cases h
  | succ n ih =>
    intro s ex s' h φ a w hr ha Q hQ
    replace h : (match f s with | some (.normal, s) => iter f n s | r => r) = some (ex, s') := h
    split at h
    · rename_i s1 h1
      refine LoopWp.step (hf s .normal s1 h1 φ a w hr ha _ fun φ' a' w' hs ha' => ?_)
      exact ih s1 ex s' h φ' a' w' hs.hr ha' Q (hQ.mono hs)
    · rename_i hn
      refine LoopWp.step (hf s ex s' h φ a w hr ha _ fun φ' a' w' hs ha' => ?_)
      cases ex with
      | normal => exact (hn s' h).elim
      | exit id => exact hQ φ' a' w' hs ha'
      | ret => exact hQ φ' a' w' hs ha'
theorem evC_ok (hX : ExtOK P X) (hC : CallOK P call) (hD : DrawOK P dr) : ∀ c : Code, CodeOK P c (evC P X call dr c) := by
  intro c
  induction c with
  | skip => intro s ex s' h φ a w hr ha Q hQ; cases h; exact wp_skip (hQ φ a w (Step.refl hr) ha)
  | region id ops d =>
    intro s ex s' h φ a w hr ha Q hQ
    cases d with
    | true =>
      replace h : (ob (dr ops s) fun s => some (Ex.normal, s)) = some (ex, s') := h
      replace h := ob_some h
      obtain ⟨s1, h1, h⟩ := h
      cases h
      exact hD ops s s' h1 φ a w hr ha id Q hQ
    | false =>
      replace h : (ob (evR P X call ops.toList ops.toList s) fun s => some (Ex.normal, s)) = some (ex, s') := h
      replace h := ob_some h
      obtain ⟨s1, h1, h⟩ := h
      cases h
      refine wp_region ?_
      rw [List.range_eq_range']
      have := evR_wp hX hC (ops := ops) (Q := Q) ops.toList 0 rfl s s' h1 φ a w hr ha hQ
      simpa using this
  | seq x y ix iy =>
    intro s ex s' h φ a w hr ha Q hQ
    replace h : (match evC P X call dr x s with | some (.normal, s) => evC P X call dr y s | r => r) = some (ex, s') := h
    refine wp_seq ?_
    split at h
    · rename_i s1 h1
      refine ix s .normal s1 h1 φ a w hr ha _ fun φ' a' w' hs ha' => ?_
      exact iy s1 ex s' h φ' a' w' hs.hr ha' Q (hQ.mono hs)
    · rename_i hn
      refine ix s ex s' h φ a w hr ha _ fun φ' a' w' hs ha' => ?_
      cases ex with
      | normal => exact (hn s' h).elim
      | exit id => exact hQ φ' a' w' hs ha'
      | ret => exact hQ φ' a' w' hs ha'
  | cond c x y ix iy =>
    intro s ex s' h φ a w hr ha Q hQ
    replace h : (match opnd s c with | some (.bool true) => evC P X call dr x s | some (.bool false) => evC P X call dr y s | _ => none) = some (ex, s') := h
    split at h
    · rename_i hc
      exact wp_cond_true (opnd_run hr ha _ _ hc).bool' (ix s ex s' h φ a w hr ha Q hQ)
    · rename_i hc
      exact wp_cond_false (opnd_run hr ha _ _ hc).bool' (iy s ex s' h φ a w hr ha Q hQ)
    · cases h
  | block id x ix =>
    intro s ex s' h φ a w hr ha Q hQ
    replace h : (match evC P X call dr x s with | some (.exit i, s) => (match Nat.beq i id with | true => some (Ex.normal, s) | false => some (.exit i, s)) | r => r) = some (ex, s') := h
    refine wp_block ?_
    split at h
    · rename_i i s1 h1
      split at h
      · rename_i hi
        cases h
        have hi := Nat.eq_of_beq_eq_true hi
        refine ix s _ _ h1 φ a w hr ha _ fun φ' a' w' hs ha' => ?_
        show (if i = id then Q .normal a' w' else Q (.exit i) a' w')
        rw [if_pos hi]
        exact hQ φ' a' w' hs ha'
      · rename_i hi
        cases h
        refine ix s _ _ h1 φ a w hr ha _ fun φ' a' w' hs ha' => ?_
        show (if i = id then Q .normal a' w' else Q (.exit i) a' w')
        rw [if_neg (fun he => by rw [he, Nat.beq_refl] at hi; cases hi)]
        exact hQ φ' a' w' hs ha'
    · rename_i hn
      refine ix s ex s' h φ a w hr ha _ fun φ' a' w' hs ha' => ?_
      cases ex with
      | normal => exact hQ φ' a' w' hs ha'
      | exit i => exact (hn i s' h).elim
      | ret => exact hQ φ' a' w' hs ha'
  | loop x ix =>
    intro s ex s' h φ a w hr ha Q hQ
    exact (iter_ok ix 1000000 s ex s' h φ a w hr ha Q hQ).wp
  | rangeFunc f ps x y ix iy => intro s ex s' h; cases h
  | exit id => intro s ex s' h φ a w hr ha Q hQ; cases h; exact wp_exit (hQ φ a w (Step.refl hr) ha)
  | scope x ix => intro s ex s' h; cases h
  | label l => intro s ex s' h φ a w hr ha Q hQ; cases h; exact wp_label (hQ φ a w (Step.refl hr) ha)
  | goto l => intro s ex s' h; cases h
  | ret => intro s ex s' h φ a w hr ha Q hQ; cases h; exact wp_ret (hQ φ a w (Step.refl hr) ha)
  | refuse why => intro s ex s' h; cases h
noncomputable def initT (l : List Value) : Nat → TT → TT :=
  List.rec (motive := fun _ => Nat → TT → TT) (fun _ T => T) (fun v _ ih i T => ih (Nat.add i 1) (TT.set T i v)) l
noncomputable def resV (P : Program) (s : St) (r : ResultVar) : Option Value := match r with
  | .tmp t => opnd s (.tmp t)
  | .cell a t => ob (opnd s (.tmp a)) fun x => loadV P s.h.get t x
noncomputable def oneV (l : List Value) : Value := match l with
  | [v] => v
  | l => .tuple ⟨l⟩
noncomputable def resS (P : Program) (fn : Func) (s : St) : Option (Value × Hp) := ob (mapO (resV P s) fn.results.toList) fun l => some (oneV l, s.h)
noncomputable def evBody (P : Program) (X : FuncId → List Value → Option Value) (call : CallF) (dr : DrawF) (f : FuncId) (args : List Value) (h : Hp) : Option (Func × St) :=
  match P.funcs[f]? with
  | some fn => match fn.body, Nat.ble args.length fn.ntmps && Nat.ble fn.ntmps 256 with
    | some c, true => match evC P X call dr c ⟨initT args 0 TT.nil, fn.ntmps, h, []⟩ with
      | some (.exit _, _) | none => none
      | some (_, s) => some (fn, s)
    | _, _ => none
  | none => none
noncomputable def evDefer (P : Program) (X : FuncId → List Value → Option Value) (call : CallF) (dr : DrawF) (f : FuncId) (args : List Value) (h : Hp) : Option Hp :=
  ob (evBody P X call dr f args h) fun r => match r.2.D, r.1.name == "runtime.NumGoroutine" with
    | [], false => ob (resS P r.1 r.2) fun x => some x.2
    | _, _ => none
noncomputable def evDefers (P : Program) (X : FuncId → List Value → Option Value) (call : CallF) (dr : DrawF) (l : List (FuncId × List Value)) : Hp → Option Hp :=
  List.rec (motive := fun _ => Hp → Option Hp) (fun h => some h) (fun x _ ih h => ob (evDefer P X call dr x.1 x.2 h) ih) l
noncomputable def evCall (P : Program) (X : FuncId → List Value → Option Value) (Sm : CallF) (D : CallF → DrawF) (d : Nat) : CallF :=
  Nat.rec (motive := fun _ => CallF) (fun _ _ _ => none) (fun _ ih f args h => match Sm f args h with
    | some r => some r
    | none => ob (evBody P X ih (D ih) f args h) fun r => ob (evDefers P X ih (D ih) r.2.D r.2.h) fun h => resS P r.1 ⟨r.2.T, r.2.k, h, r.2.D⟩) d
end
end Go.Proofs.YthohhepoddnbnaaGreatDoor.Ev
namespace Go.Proofs.YthohhepoddnbnaaGreatDoor.Ev
noncomputable def rngB (n : Nat) (f : Nat → Bool) : Bool := Nat.rec (motive := fun _ => Bool) true (fun k ih => match f k with | true => ih | false => false) n
theorem rngB_spec {f : Nat → Bool} : ∀ {n : Nat}, rngB n f = true → ∀ k, k < n → f k = true
  | 0, _, k, hk => by omega
  | n + 1, h, k, hk => by
    replace h : (match f n with | true => rngB n f | false => false) = true := h
    split at h
    · rename_i hn
      by_cases e : k = n
      · subst e; exact hn
      · exact rngB_spec h k (by omega)
    · cases h
noncomputable def veqO (a : Option Value) (b : Value) : Bool := match a with
  | some a => veq 64 a b
  | none => false
theorem veqO_spec {a : Option Value} {b : Value} (h : veqO a b = true) : a = some b := by
  unfold veqO at h
  split at h
  · rw [veq_spec h]
  · cases h
noncomputable def mayB (A : List Nat) (z : DA) (i k : Nat) : Bool := rngB z.q fun q => (!(bits A i (z.e q)) || Nat.ble (Nat.add q 1) k) && (!(bits A (z.e q) i) || Nat.ble k q)
theorem mayB_of {A : List Nat} {z : DA} {i k : Nat} (h1 : ∀ q, q < z.q → bits A i (z.e q) = true → q < k) (h2 : ∀ q, q < z.q → bits A (z.e q) i = true → k ≤ q) : mayB A z i k = true := by
  unfold mayB
  have : ∀ n, n ≤ z.q → rngB n (fun q => (!(bits A i (z.e q)) || Nat.ble (Nat.add q 1) k) && (!(bits A (z.e q) i) || Nat.ble k q)) = true := by
    intro n
    induction n with
    | zero => intro _; rfl
    | succ n ih =>
      intro hn
      show (match (!(bits A i (z.e n)) || Nat.ble (Nat.add n 1) k) && (!(bits A (z.e n) i) || Nat.ble k n) with | true => rngB n _ | false => false) = true
      have : ((!(bits A i (z.e n)) || Nat.ble (Nat.add n 1) k) && (!(bits A (z.e n) i) || Nat.ble k n)) = true := by
        rw [Bool.and_eq_true, Bool.or_eq_true, Bool.or_eq_true]
        refine ⟨?_, ?_⟩
        · cases hb : bits A i (z.e n) with
          | false => exact .inl rfl
          | true => exact .inr (Nat.ble_eq_true_of_le (h1 n (by omega) hb))
        · cases hb : bits A (z.e n) i with
          | false => exact .inl rfl
          | true => exact .inr (Nat.ble_eq_true_of_le (h2 n (by omega) hb))
      rw [this]
      exact ih (by omega)
  exact this _ (Nat.le_refl _)
/-- what is left to be looked at when all has run -/
noncomputable def finD (P : Program) (A : List Nat) (N n0 : Nat) (z : DA) (ops : List Oper) : Bool :=
  allI (fun i o => match z.kind i with
    | .val => match isL o with
      | false => true
      | true => rngB (Nat.add z.q 1) fun k => match mayB A z i k with
        | false => true
        | true => veqO (evV P (contD N n0 z.kind z.V z.ins k) (z.rho i) o) (z.val i)
    | .alloc _ _ => rngB z.q fun q => match z.ins (Nat.add q 1) i with
      | true => true
      | false => match (z.V q).get (Nat.add n0 i) with
        | none => true
        | some _ => false
    | _ => true) ops 0
noncomputable def evD (P : Program) (X : FuncId → List Value → Option Value) (call : CallF) : DrawF := fun ops s =>
  match Nat.ble (Nat.add s.h.n ops.toList.length) 65536 && Nat.ble s.k 256 && statOK ops.toList (masks ops.toList []) with
  | false => none
  | true => ob (runD P X call (masks ops.toList []) ops.toList s s.h.n ops.toList 0 (initD s ⟨Nat.add s.h.n ops.toList.length, s.h.m⟩)) fun z =>
    match finD P (masks ops.toList []) ops.toList.length s.h.n z ops.toList with
    | false => none
    | true => some ⟨z.T, s.k, puts s.h.n z.pend z.h, s.D⟩
section
variable {P : Program} {X : FuncId → List Value → Option Value} {call : CallF} {ops : Array Oper} {s : St} {n0 : Nat} {h0 : Hp} {A : List Nat}
theorem EI.qN {z : DA} (he : EI P X call ops n0 h0 A z ops.size) {q : Nat} (hq : q < z.q) : z.e q < ops.size := (he.e2 q hq).2
noncomputable def mkDOK (hS : SOK ops A) (hb : s.h.n + ops.size ≤ 65536) {z : DA} (hc : CI ops s A z ops.size) (he : EI P X call ops s.h.n ⟨s.h.n + ops.size, s.h.m⟩ A z ops.size) (hf : finD P A ops.size s.h.n z ops.toList = true) : DOK P X call ops s s.h.n where
  anc := fun i j => bits A i j = true
  val := z.val
  rho := z.rho
  want := z.want
  kind := z.kind
  m := z.q
  e := z.e
  V := z.V
  I := z.I
  ins := z.ins
  hn0 := Nat.le_refl _
  hb0 := hb
  edge := hS.edge
  hanc := hS.anc
  hdst := hS.dst
  hdk := fun i o d ho hd => hc.cd i o d (Array.getElem?_eq_some_iff.1 ho).1 ho hd
  hrho := fun i o t v ho hr => by
    obtain ⟨h1, h2, h3⟩ := hc.cr i o t v (Array.getElem?_eq_some_iff.1 ho).1 ho hr
    refine ⟨h1, ?_⟩
    rcases h3 with ⟨j, oj, a1, a2, a3, a4⟩ | ⟨a1, a2⟩
    · exact .inl ⟨j, oj, a2, a3, (hS.read i j o oj t ho a2 h2 a3).1 a1, a4⟩
    · refine .inr ⟨fun j oj hj hd => ?_, a2⟩
      rcases Nat.lt_trichotomy j i with h | h | h
      · exact absurd hd (a1 j oj h hj)
      · exact .inl h
      · exact .inr ((hS.read i j o oj t ho hj h2 hd).2 h)
  hrho' := fun i x v hx hr => by
    by_cases hi : i < ops.size
    · exact hc.cr' i x v hi hx hr
    · exact (hc.c0 i x v (by omega) hr).elim
  hwant := fun i o ho => by
    rcases hc.cw i o (Array.getElem?_eq_some_iff.1 ho).1 ho with h | ⟨g, b, p, d, a1, a2, a3, a4, a5⟩
    · exact .inl h
    · exact .inr ⟨g, b, p, d, a1, a2, a3, a4, a5⟩
  hskip := fun i o ho hw => hc.cs i (Array.getElem?_eq_some_iff.1 ho).1 hw
  hwk := fun i o ho hw => hc.ck i (Array.getElem?_eq_some_iff.1 ho).1 hw
  hval := fun i o ho hk k hkm h1 h2 => by
    have h := allI_spec hf i o (by simpa using ho)
    simp only [Nat.zero_add, hk] at h
    split at h
    · rename_i hl
      obtain ⟨C, hC⟩ := he.v1 i o (Array.getElem?_eq_some_iff.1 ho).1 ho hk
      rw [← hC]
      exact evV_free hl
    · have h := rngB_spec h k (Nat.lt_succ_of_le hkm)
      rw [mayB_of h1 h2] at h
      exact veqO_spec h
  halloc := fun i o B mk ho hk => he.a1 i o B mk (Array.getElem?_eq_some_iff.1 ho).1 ho hk
  hlive := fun i B mk hk => he.al i B mk hk
  heff := fun i o q ho hk => he.e1 i o q (Array.getElem?_eq_some_iff.1 ho).1 ho hk
  he := fun q hq => (he.e2 q hq).1
  hel := fun q hq => by have := (he.e2 q hq).2; omega
  hord := he.e3
  hV0 := by rw [he.v0]; exact ⟨rfl, fun _ => rfl⟩
  hins0 := he.i0
  hins := he.ia
  hmono := he.im
  hIn := he.inn
  hI := fun q id hq => by
    have out : ∀ j, z.ins (q + 1) j = true → j < ops.size ∧ ∃ B mk, z.kind j = .alloc B mk := fun j hj => by
      obtain ⟨B, mk, a⟩ := he.p2 (q + 1) j hq hj
      refine ⟨?_, B, mk, a⟩
      rcases Nat.lt_or_ge j ops.size with h1 | h1
      · exact h1
      · rw [he.k0 j h1] at a; cases a
    by_cases hr : s.h.n ≤ id ∧ id < s.h.n + ops.size
    · rw [if_pos hr]
      obtain ⟨j, rfl⟩ : ∃ j, id = s.h.n + j := ⟨id - s.h.n, by omega⟩
      rw [Nat.add_sub_cancel_left]
      split
      · rename_i B mk hk
        by_cases i1 : z.ins q j = true
        · rw [if_pos i1]
          exact he.eb q _ hq fun j' hj' _ => by rw [show j' = j by omega]; exact i1
        · rw [if_neg i1]
          have i1 : z.ins q j = false := by simpa using i1
          by_cases i2 : z.ins (q + 1) j = true
          · rw [if_pos i2]
            exact he.ea q j B mk hq hk i1 i2
          · rw [if_neg i2]
            have i2 : z.ins (q + 1) j = false := by simpa using i2
            rw [he.eb q _ hq fun j' hj' h' => by rw [show j' = j by omega, i2] at h'; cases h']
            have hj : j < ops.size := by omega
            have h := allI_spec hf j ops[j] (by simp [hj])
            simp only [Nat.zero_add, hk] at h
            have h := rngB_spec h q hq
            replace h : (match z.ins (q + 1) j with | true => true | false => match (z.V q).get (s.h.n + j) with | none => true | some _ => false) = true := h
            rw [i2] at h
            simp only at h
            split at h
            · rename_i hg; exact hg
            · cases h
      · rename_i hk
        exact he.eb q _ hq fun j' hj' h' => by
          obtain ⟨-, B, mk, a⟩ := out j' h'
          rw [show j' = j by omega] at a
          exact absurd a (hk B mk)
    · rw [if_neg hr]
      exact he.eb q id hq fun j' hj' h' => by
        obtain ⟨a, -⟩ := out j' h'
        omega
end
end Go.Proofs.YthohhepoddnbnaaGreatDoor.Ev
namespace Go.Proofs.YthohhepoddnbnaaGreatDoor.Ev
section
variable {P : Program} {X : FuncId → List Value → Option Value} {call : CallF}
theorem puts_final {ops : Array Oper} {s : St} {A : List Nat} {z : DA} (hb : s.h.n + ops.size ≤ 65536) {h0 : Hp} (he : EI P X call ops s.h.n h0 A z ops.size) (id : Nat) :
    contD ops.size s.h.n z.kind z.V z.ins z.q id = (puts s.h.n z.pend z.h).get id := by
  have pl : ∀ p ∈ z.pend, p.1 < ops.size ∧ ∃ mk, z.kind p.1 = .alloc p.2 mk ∧ z.ins z.q p.1 = false := fun p hp => by
    obtain ⟨⟨mk, hk⟩, h2⟩ := (he.p1 p.1 p.2).1 hp
    refine ⟨?_, mk, hk, h2⟩
    rcases Nat.lt_or_ge p.1 ops.size with h1 | h1
    · exact h1
    · rw [he.k0 _ h1] at hk; cases hk
  have pb : ∀ p ∈ z.pend, s.h.n + p.1 < 65536 := fun p hp => by have := (pl p hp).1; omega
  have out : (∀ p ∈ z.pend, id ≠ s.h.n + p.1) → (z.V z.q).get id = (puts s.h.n z.pend z.h).get id := fun h => by rw [puts_none pb h, he.vq]
  unfold contD
  split
  · rename_i hr
    obtain ⟨j, rfl⟩ : ∃ j, id = s.h.n + j := ⟨id - s.h.n, by omega⟩
    rw [Nat.add_sub_cancel_left]
    split
    · rename_i B mk hk
      split
      · rename_i hi
        refine out fun p hp e => ?_
        obtain ⟨-, mk', -, h2⟩ := pl p hp
        rw [show p.1 = j by omega, hi] at h2
        cases h2
      · rename_i hi
        refine (puts_some pb (fun p hp hj => ?_) ((he.p1 j B).2 ⟨⟨mk, hk⟩, by simpa using hi⟩)).symm
        obtain ⟨-, mk', h1, -⟩ := pl p hp
        rw [hj, hk] at h1
        cases h1
        rfl
    · rename_i hk
      refine out fun p hp e => ?_
      obtain ⟨-, mk', h1, -⟩ := pl p hp
      rw [show p.1 = j by omega] at h1
      exact hk _ _ h1
  · rename_i hr
    refine out fun p hp e => ?_
    have := (pl p hp).1
    omega
theorem evD_ok (hX : ExtOK P X) (hC : CallOK P call) (hm : P.follows .mixedOrders = true) : DrawOK P (evD P X call) := by
  intro ops s s' h φ a w hr ha id Q hQ
  unfold evD at h
  split at h
  · cases h
  rename_i hchk
  simp only [Bool.and_eq_true] at hchk
  obtain ⟨⟨c1, c2⟩, c3⟩ := hchk
  obtain ⟨z, hz, h⟩ := ob_some h
  split at h
  · cases h
  rename_i hf
  cases h
  have hb : s.h.n + ops.size ≤ 65536 := by have := Nat.le_of_ble_eq_true c1; simpa using this
  have hk : s.k ≤ 256 := Nat.le_of_ble_eq_true c2
  have hS := SOK.of c3
  rw [show ops.toList.length = ops.size by simp] at hz hf
  obtain ⟨A, hA⟩ : ∃ A, A = masks ops.toList [] := ⟨_, rfl⟩
  rw [← hA] at hz hf hS
  obtain ⟨hc, he⟩ := runD_ok (P := P) (X := X) (call := call) (n0 := s.h.n) (h0 := ⟨s.h.n + ops.size, s.h.m⟩) hS hk hb ops.toList 0 _ z (fun j o hj => by rw [Nat.zero_add]; simpa using hj) CI.init EI.init hz
  rw [Nat.zero_add, show ops.toList.length = ops.size by simp] at hc he
  obtain ⟨d, hd⟩ : ∃ d : DOK P X call ops s s.h.n, d = mkDOK hS hb hc he hf := ⟨_, rfl⟩
  have dm : d.m = z.q := by rw [hd]; rfl
  have dV : d.V = z.V := by rw [hd]; rfl
  have dk : d.kind = z.kind := by rw [hd]; rfl
  have dn : d.ins = z.ins := by rw [hd]; rfl
  have dv : d.val = z.val := by rw [hd]; rfl
  obtain ⟨w1, hw1⟩ : ∃ w1 : World, w1 = { w with drawn := w.drawn + 1 } := ⟨_, rfl⟩
  have s1 := hr.world (w' := w1) (by rw [hw1])
  refine wp_region_any hm ?_
  rw [← hw1]
  have C0 : ∀ i, i < s.h.n → d.C 0 i = s.h.get i := fun i hi => by
    show contD _ _ _ _ _ _ _ = _
    unfold contD
    rw [if_neg (by omega)]
    exact d.hV0.2 i
  have Cro : ∀ i cs, d.C 0 i = some (.ro cs) → s.h.get i = some (.ro cs) := fun i cs h => by
    by_cases hp : d.pend 0 i
    · obtain ⟨B, mk, h1, h2⟩ := d.C_pend hp
      have := d.hlive _ _ _ h1
      rw [h2] at h
      cases h
      exact this.elim
    · rw [d.C_not hp] at h; rw [← d.hV0.2 i]; exact h
  have hr1 := s1.hr
  have hr0 : HR φ (d.C 0) (d.V 0).n w1 := by
    rw [d.hV0.1]
    refine ⟨hb, fun i cs h => by have := hr1.ro i cs (Cro i cs h); exact ⟨by omega, this.2⟩, fun i b hi => by have := hr1.lt i b hi; omega, fun i j b hi hj hl ht => ?_, fun i b hi => ?_⟩
    · rw [C0 i (hr1.lt i b hi).1] at hl
      rw [C0 j (hr1.lt j b hj).1] at ht
      exact hr1.inj i j b hi hj hl ht
    · rw [C0 i (hr1.lt i b hi).1]
      exact hr1.row i b hi
  refine draw_wp hX hC d (φ0 := φ) (w0 := w1) (fun φ' a' w' hst h1 h2 h3 h4 => ?_) ops.size 0 φ _ a w1 ⟨List.range ops.size, by simp, fun i hi => .inr (List.mem_range.2 hi)⟩ ?_
  · refine hQ φ' a' w' (s1.trans ?_) ⟨h1.mono hst.ext, h2, hk, fun t v ht hv => ?_⟩
    · show Step φ s.h.get s.h.n w1 φ' (puts s.h.n z.pend z.h).get (puts s.h.n z.pend z.h).n w'
      rw [puts_n, show z.h.n = (z.V z.q).n by rw [he.vq]]
      have hCe : d.C d.m = (puts s.h.n z.pend z.h).get := by
        funext i
        rw [← puts_final hb he i]
        show contD _ _ _ _ _ _ _ = _
        rw [dm, dV, dk, dn]
      rw [hCe, dm, dV] at hst
      exact hst
    · rcases hc.cT t v ht hv with ⟨j, oj, a1, a2, a3, a4⟩ | ⟨a1, a2⟩
      · rw [a4, ← dv]; exact h3 j oj t a2 a3
      · exact h4 t v ht a2 fun j oj hj => a1 j oj (Array.getElem?_eq_some_iff.1 hj).1 hj
  · have no : ∀ i, ¬ LD (Array.replicate ops.size false) i := fun i h => by
      unfold LD at h
      rw [Array.getElem?_replicate] at h
      split at h <;> simp at h
    refine ⟨by simp, fun i o hl => absurd hl (no i), Nat.zero_le _, fun q hq => ⟨fun h => absurd h (no _), fun h => absurd h (Nat.not_lt_zero _)⟩, ⟨hr0, φ.le_refl, fun _ _ _ h => h, by rw [d.hV0.1]; omega, fun i hi hl => by rw [C0 i hi] at hl; exact hl, fun i cs h => Cro i cs h, fun i b hi hb' => absurd (hr1.lt i b hb').1 (by omega), Nat.le_refl _, fun _ _ _ => rfl, .refl w1⟩, by rw [d.hV0.1]; exact Nat.le_refl _, fun j hj _ => ?_, ha.d, ha.n, fun j oj t hl => absurd hl (no j), fun t v ht hv _ => ha.t t v ht hv, fun g cs h => (hr1.ro g cs h).2⟩
    cases hφ : φ (s.h.n + j) with
    | none => rfl
    | some b => exact absurd (hr1.lt _ b hφ).1 (by omega)
end
end Go.Proofs.YthohhepoddnbnaaGreatDoor.Ev
namespace Go.Proofs.YthohhepoddnbnaaGreatDoor.Ev
theorem TT.nil_get (t : Nat) : TT.nil.get t = none := by
  show (mkSel _).get ((mkSel _).get (full (full none))) = none
  rw [full_get, full_get]
theorem initT_get : ∀ (l : List Value) (i : Nat) (T : TT), i + l.length ≤ 256 → ∀ t, t < 256 → (initT l i T).get t = if i ≤ t ∧ t < i + l.length then l[t - i]? else T.get t
  | [], i, T, h, t, ht => by
    show T.get t = _
    rw [if_neg (by simp)]
  | v :: l, i, T, h, t, ht => by
    have hl : (v :: l).length = l.length + 1 := rfl
    rw [hl] at h ⊢
    show (initT l (i + 1) (TT.set T i v)).get t = _
    rw [initT_get l (i + 1) _ (by omega) t ht]
    by_cases e : t = i
    · subst e
      rw [if_neg (by omega), if_pos (by omega), TT.get_same _ _ _ ht, Nat.sub_self]
      rfl
    · rw [TT.get_ne T i t v (by omega) ht (fun x => e x.symm)]
      by_cases hc : i + 1 ≤ t ∧ t < i + 1 + l.length
      · rw [if_pos hc, if_pos (by omega), show t - i = (t - (i + 1)) + 1 by omega]
        rfl
      · rw [if_neg hc, if_neg (by omega)]
section
variable {P : Program}
theorem init_AR {φ : Ren} {args args' : List Value} {n : Nat} {h : Hp} (ha : LR φ args args') (h1 : args.length ≤ n) (h2 : n ≤ 256) :
    AR φ ⟨initT args 0 TT.nil, n, h, []⟩ { tmps := (⟨args'⟩ : Array Value) ++ Array.replicate (n - (⟨args'⟩ : Array Value).size) undef, defers := [] } := by
  have hl := ha.1
  refine ⟨.nil, ?_, h2, fun t v ht hv => ?_⟩
  · simp; omega
  · simp only at ht hv
    rw [initT_get args 0 TT.nil (by omega) t (by omega)] at hv
    split at hv
    · rename_i hc
      obtain ⟨y, hy, hr⟩ := ha.at hv
      refine ⟨y, ?_, hr⟩
      have hlt : t < args'.length := by omega
      rw [Array.getElem?_append_left (by simpa using hlt)]
      simpa using hy
    · rw [TT.nil_get] at hv; cases hv
theorem mapM_run {α : Type} {f : α → Sem Value} {w : World} : ∀ (l : List α) (vs : List Value), vs.length = l.length → (∀ (i : Nat) x v, l[i]? = some x → vs[i]? = some v → (f x).run P w = .ok v w) → (l.mapM f).run P w = .ok vs w
  | [], vs, h, _ => by
    cases vs with
    | nil => simp
    | cons a b => simp at h
  | x :: l, vs, h, hf => by
    cases vs with
    | nil => simp at h
    | cons v vs =>
      have h0 := hf 0 x v rfl rfl
      have ih := mapM_run l vs (by simpa using h) fun i y u hy hu => hf (i + 1) y u (by simpa using hy) (by simpa using hu)
      simp [List.mapM_cons, h0, ih]
theorem results_run {φ : Ren} {s : St} {a : Act} {w : World} (hr : HR φ s.h.get s.h.n w) (ha : AR φ s a) {fn : Func} {l : List Value} (h : mapO (resV P s) fn.results.toList = some l) :
    ∃ v', VR φ (oneV l) v' ∧ (results fn a.tmps).run P w = .ok v' w := by
  obtain ⟨h1, h2⟩ := mapO_spec h
  have key : ∀ (i : Nat) (r : ResultVar), fn.results.toList[i]? = some r → ∃ v v', l[i]? = some v ∧ VR φ v v' ∧ (match r with
      | .tmp t => pure (a.tmps.getD t undef)
      | .cell b t => do loadVar t (← asAddr (a.tmps.getD b undef)) : Sem Value).run P w = .ok v' w := by
    intro i r hi
    obtain ⟨v, hv, hf⟩ := h2 i r hi
    cases r with
    | tmp t =>
      have := opnd_run hr ha (.tmp t) v hf
      exact ⟨v, _, hv, this, rfl⟩
    | cell b t =>
      replace hf : (ob (opnd s (.tmp b)) fun x => loadV P s.h.get t x) = some v := hf
      replace hf := ob_some hf
      obtain ⟨x, hx, hf⟩ := hf
      obtain ⟨ad, e1, v', e2, e3⟩ := loadV_run (P := P) hr (opnd_run hr ha (.tmp b) x hx) hf
      refine ⟨v, v', hv, e2, ?_⟩
      have : a.tmps.getD b undef = .pointer (some ad) := e1
      simp [this, asAddr, e3]
  obtain ⟨l', hl'⟩ : ∃ l' : List Value, LR φ l l' ∧ (fn.results.toList.mapM fun r => (match r with
      | .tmp t => pure (a.tmps.getD t undef)
      | .cell b t => do loadVar t (← asAddr (a.tmps.getD b undef)) : Sem Value)).run P w = .ok l' w := by
    have hall : ∀ n, n ≤ fn.results.toList.length → ∃ l' : List Value, l'.length = n ∧ ∀ (i : Nat) r v', fn.results.toList[i]? = some r → l'[i]? = some v' → (∃ v, l[i]? = some v ∧ VR φ v v') ∧ (match r with
      | .tmp t => pure (a.tmps.getD t undef)
      | .cell b t => do loadVar t (← asAddr (a.tmps.getD b undef)) : Sem Value).run P w = .ok v' w := by
      intro n
      induction n with
      | zero => intro _; exact ⟨[], rfl, fun i r v' _ h => by simp at h⟩
      | succ n ih =>
        intro hn
        obtain ⟨l', e1, e2⟩ := ih (by omega)
        obtain ⟨v, v', k1, k2, k3⟩ := key n _ (List.getElem?_eq_getElem (by omega))
        refine ⟨l' ++ [v'], by simp [e1], fun i r u hi hu => ?_⟩
        by_cases hin : i < n
        · rw [List.getElem?_append_left (by omega)] at hu
          exact e2 i r u hi hu
        · rw [List.getElem?_append_right (by omega)] at hu
          have hi2 : i = n := by
            have := (List.getElem?_eq_some_iff.1 hu).1
            simp at this
            omega
          subst hi2
          rw [e1] at hu
          simp at hu
          subst hu
          rw [List.getElem?_eq_getElem (by omega)] at hi
          cases hi
          exact ⟨⟨v, k1, k2⟩, k3⟩
    obtain ⟨l', e1, e2⟩ := hall _ (Nat.le_refl _)
    refine ⟨l', ⟨by omega, fun i x y hx hy => ?_⟩, mapM_run _ _ e1 fun i r v hr hv => (e2 i r v hr hv).2⟩
    have hlt : i < fn.results.toList.length := by rw [← e1]; exact (List.getElem?_eq_some_iff.1 hy).1
    obtain ⟨⟨v, q1, q2⟩, -⟩ := e2 i _ y (List.getElem?_eq_getElem hlt) hy
    rw [hx] at q1
    cases q1
    exact q2
  obtain ⟨hL, hm⟩ := hl'
  refine ⟨if h : l'.toArray.size = 1 then l'.toArray[0] else .tuple l'.toArray, ?_, ?_⟩
  · cases l with
    | nil =>
      have : l' = [] := by have := hL.1; cases l' with | nil => rfl | cons _ _ => simp at this
      subst this
      exact VR.ofTuple LR.nil
    | cons x l =>
      obtain ⟨y, l2, rfl, hxy, hrest⟩ := hL.uncons
      cases l with
      | nil =>
        have : l2 = [] := by have := hrest.1; cases l2 with | nil => rfl | cons _ _ => simp at this
        subst this
        exact hxy
      | cons x2 l =>
        obtain ⟨y2, l3, rfl, hxy2, hrest2⟩ := hrest.uncons
        rw [dif_neg (by simp)]
        exact VR.ofTuple hL
  · unfold results
    rw [Array.mapM_eq_mapM_toList]
    simp only [Sem.run_bind, Sem.run_map, Sem.run_pure]
    exact congrArg (fun r : Result (List Value) => (r.andThen fun a w' => Result.ok a.toArray w').andThen fun (a : Array Value) w' => Result.ok (if h : a.size = 1 then a[0] else Value.tuple a) w') hm
theorem evBody_ok {X : FuncId → List Value → Option Value} {call : CallF} {dr : DrawF} (hX : ExtOK P X) (hC : CallOK P call) (hD : DrawOK P dr) {f : FuncId} {args : List Value} {h : Hp} {fn : Func} {s : St} (hh : evBody P X call dr f args h = some (fn, s)) :
    P.funcs[f]? = some fn ∧ ∃ c, fn.body = some c ∧ ∀ φ args' w, HR φ h.get h.n w → LR φ args args' → ∀ Q : Exit → Act → World → Prop, (∀ φ' a' w', Step φ h.get h.n w φ' s.h.get s.h.n w' → AR φ' s a' → Q .normal a' w' ∧ Q .ret a' w') →
      c.wp P Q { tmps := (⟨args'⟩ : Array Value) ++ Array.replicate (fn.ntmps - (⟨args'⟩ : Array Value).size) undef, defers := [] } w := by
  unfold evBody at hh
  split at hh
  · rename_i fn1 hf
    split at hh
    · rename_i c hb hc
      simp only [Bool.and_eq_true] at hc
      have c1 := Nat.le_of_ble_eq_true hc.1
      have c2 := Nat.le_of_ble_eq_true hc.2
      split at hh
      · cases hh
      · cases hh
      · rename_i ex s1 hnex hev
        cases hh
        refine ⟨hf, c, hb, fun φ args' w hr ha Q hQ => ?_⟩
        have hcode := evC_ok hX hC hD c
        have hAR := init_AR (h := h) ha c1 c2
        refine hcode _ ex s hev φ _ w hr hAR _ fun φ' a' w' hs ha' => ?_
        cases ex with
        | normal => exact (hQ φ' a' w' hs ha').1
        | ret => exact (hQ φ' a' w' hs ha').2
        | exit i => exact (hnex i rfl).elim
    · cases hh
  · cases hh
theorem resS_run {φ : Ren} {s : St} {a : Act} {w : World} (hr : HR φ s.h.get s.h.n w) (ha : AR φ s a) {fn : Func} {v : Value} {h' : Hp} (h : resS P fn s = some (v, h')) :
    h' = s.h ∧ ∃ v', VR φ v v' ∧ (results fn a.tmps).run P w = .ok v' w := by
  obtain ⟨l, hl, h⟩ := ob_some (show ob (mapO (resV P s) fn.results.toList) (fun l => some (oneV l, s.h)) = some (v, h') from h)
  cases h
  exact ⟨rfl, results_run hr ha hl⟩
theorem evDefer_ok {X : FuncId → List Value → Option Value} {call : CallF} {dr : DrawF} (hX : ExtOK P X) (hC : CallOK P call) (hD : DrawOK P dr) {f : FuncId} {args : List Value} {h h' : Hp} (hh : evDefer P X call dr f args h = some h') {φ : Ren} {args' : List Value} {w : World} (hr : HR φ h.get h.n w) (ha : LR φ args args') (u : FrameMode) :
    (∀ w2, (callFunc f ⟨args'⟩).run P w2 = .ok (.enter f ⟨args'⟩) w2) ∧ CallsD P f ⟨args'⟩ u w fun e u' w' => u' = u ∧ (∃ v, e = .returned v) ∧ ∃ φ', Step φ h.get h.n w φ' h'.get h'.n w' := by
  obtain ⟨r, h1, hh⟩ := ob_some (show ob (evBody P X call dr f args h) (fun r => match r.2.D, r.1.name == "runtime.NumGoroutine" with
    | [], false => ob (resS P r.1 r.2) fun x => some x.2
    | _, _ => none) = some h' from hh)
  obtain ⟨fn, s⟩ := r
  split at hh
  · rename_i hD0 hname
    obtain ⟨x, h2, hh⟩ := ob_some hh
    cases hh
    obtain ⟨v, hx⟩ := x
    obtain ⟨hf, c, hb, hw⟩ := evBody_ok hX hC hD h1
    refine ⟨fun w2 => ?_, callsD_of_wp hf hb (hw φ args' w hr ha _ fun φ' a' w' hs ha' => ?_)⟩
    · have hne : ¬ fn.name = "runtime.NumGoroutine" := by simpa using hname
      unfold callFunc
      simp [hf, hne, hb]
    · obtain ⟨rfl, v', q1, q2⟩ := resS_run (P := P) hs.hr ha' h2
      have hd : a'.defers = [] := by
        have := ha'.d
        simp only at hD0
        rw [hD0] at this
        generalize a'.defers = ds at this ⊢
        cases this
        rfl
      exact ⟨⟨hd, v', q2, ⟨v', rfl⟩, φ', hs⟩, ⟨hd, v', q2, ⟨v', rfl⟩, φ', hs⟩⟩
  · cases hh
theorem evDefers_ok {X : FuncId → List Value → Option Value} {call : CallF} {dr : DrawF} (hX : ExtOK P X) (hC : CallOK P call) (hD : DrawOK P dr) {fn : Func} {tmps : Array Value} {R : Ending → World → Prop} : ∀ (l : List (FuncId × List Value)) (h h' : Hp), evDefers P X call dr l h = some h' → ∀ (φ : Ren) (ds : List Deferred) (w : World), HR φ h.get h.n w → DL φ l ds →
    (∀ φ' w', Step φ h.get h.n w φ' h'.get h'.n w' → ∃ v, (results fn tmps).run P w' = .ok v w' ∧ R (.returned v) w') → Leaves P fn tmps R ds .returning w := by
  intro l
  induction l with
  | nil =>
    intro h h' hh φ ds w hr hds hR
    cases hh
    cases hds
    exact hR φ w (Step.refl hr)
  | cons x l ih =>
    intro h h' hh φ ds w hr hds hR
    obtain ⟨h1, e1, e2⟩ := ob_some (show ob (evDefer P X call dr x.1 x.2 h) (evDefers P X call dr l) = some h' from hh)
    cases hds with
    | @cons f args dargs cap _ ds hargs hrest =>
      obtain ⟨k1, k2⟩ := evDefer_ok hX hC hD e1 hr hargs .returning
      refine leaves_cons (by simp) (f := f) (args := dargs ++ cap) ?_ ?_
      · exact k1 w
      · refine CallsD.mono k2 ?_
        rintro e u' w' ⟨rfl, ⟨v, rfl⟩, φ', hs⟩
        exact ih h1 h' e2 φ' ds w' hs.hr (hrest.mono hs.ext) fun φ'' w'' hs' => hR φ'' w'' (hs.trans hs')
theorem evCall_ok {X : FuncId → List Value → Option Value} {Sm : CallF} {D : CallF → DrawF} (hX : ExtOK P X) (hS : CallOK P Sm) (hD : ∀ call, CallOK P call → DrawOK P (D call)) : ∀ d, CallOK P (evCall P X Sm D d) := by
  intro d
  induction d with
  | zero => intro f args h v h' hh; cases hh
  | succ d ih =>
    intro f args h v h' hh φ args' w hr ha
    replace hh : (match Sm f args h with
      | some r => some r
      | none => ob (evBody P X (evCall P X Sm D d) (D (evCall P X Sm D d)) f args h) fun r => ob (evDefers P X (evCall P X Sm D d) (D (evCall P X Sm D d)) r.2.D r.2.h) fun h => resS P r.1 ⟨r.2.T, r.2.k, h, r.2.D⟩) = some (v, h') := hh
    split at hh
    · rename_i r hs
      cases hh
      exact hS f args h v h' hs φ args' w hr ha
    · obtain ⟨r, h1, hh⟩ := ob_some hh
      obtain ⟨h2, e2, hh⟩ := ob_some hh
      obtain ⟨fn, s⟩ := r
      obtain ⟨hf, c, hb, hw⟩ := evBody_ok hX ih (hD _ ih) h1
      have key : ∀ φ' (a' : Act) w', Step φ h.get h.n w φ' s.h.get s.h.n w' → AR φ' s a' → Leaves P fn a'.tmps (fun e w' => ∃ φ' v', e = .returned v' ∧ VR φ' v v' ∧ Step φ h.get h.n w φ' h'.get h'.n w') a'.defers .returning w' := fun φ' a' w' hs ha' => by
        refine evDefers_ok hX ih (hD _ ih) s.D s.h h2 e2 φ' a'.defers w' hs.hr ha'.d fun φ'' w'' hs' => ?_
        obtain ⟨rfl, v', q1, q2⟩ := resS_run (P := P) (s := ⟨s.T, s.k, h2, s.D⟩) hs'.hr ((ha'.mono hs'.ext).heap h2) hh
        exact ⟨v', q2, φ'', v', rfl, q1, hs.trans hs'⟩
      exact calls_of_wp_defers hf hb (hw φ args' w hr ha _ fun φ' a' w' hs ha' => ⟨key φ' a' w' hs ha', key φ' a' w' hs ha'⟩)
end
end Go.Proofs.YthohhepoddnbnaaGreatDoor.Ev
namespace Go.Proofs.YthohhepoddnbnaaGreatDoor.Ev
open Go.RowKit
noncomputable def isT (o : Option (Value × Hp)) : Bool := match o with
  | some (.bool true, _) => true
  | _ => false
/-- a closed call that answers true -/
noncomputable def tells (P : Program) (X : FuncId → List Value → Option Value) (Sm : CallF) (d : Nat) (f : FuncId) : Bool := isT (evCall P X Sm (evD P X) d f [] (Hp.nil 0))
def Ren.nil : Ren := ⟨fun _ => none, fun _ => 0⟩
theorem HR.nil (w : World) : HR Ren.nil (Hp.nil 0).get (Hp.nil 0).n w where
  bnd := Nat.zero_le _
  ro := fun i cs h => by rw [Hp.nil_get] at h; cases h
  lt := fun i b h => by cases (show (none : Option Nat) = some b from h)
  inj := fun i j b h => by cases (show (none : Option Nat) = some b from h)
  row := fun i b h => by cases (show (none : Option Nat) = some b from h)
theorem tells_ok {P : Program} {X : FuncId → List Value → Option Value} {Sm : CallF} (hX : ExtOK P X) (hS : CallOK P Sm) (hm : P.follows .mixedOrders = true) {d : Nat} {f : FuncId} (h : tells P X Sm d f = true) (w : World) :
    Calls P f #[] w fun e w' => e = .returned (.bool true) ∧ Below w.heap.size w w' := by
  unfold tells isT at h
  split at h
  · rename_i h' he
    refine (evCall_ok hX hS (fun call hC => evD_ok hX hC hm) d f [] (Hp.nil 0) _ h' he Ren.nil [] w (HR.nil w) LR.nil).mono ?_
    rintro e w' ⟨φ', v', rfl, hv, hs⟩
    have : v' = .bool true := (VR.same 1 _ _ rfl hv).symm
    subst this
    exact ⟨rfl, hs.same.os, hs.same.tape, hs.same.output, hs.size, fun k hk => hs.frame k hk fun i hi => by cases (show (none : Option Nat) = some k from hi)⟩
  · cases h
end Go.Proofs.YthohhepoddnbnaaGreatDoor.Ev
