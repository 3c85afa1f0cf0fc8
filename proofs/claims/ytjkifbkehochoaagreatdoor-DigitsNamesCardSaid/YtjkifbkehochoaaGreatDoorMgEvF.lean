/- The evaluator of closed calls, part EvF. The evaluator of closed calls, part EvG. -/
import Derived.Test.YtjkifbkehochoaaGreatDoorMgEvC
import Derived.RangeFuncRecord
import Derived.RangeFuncIn
import Derived.Defers
import Derived.Recover
import Derived.RangeFuncLeaves
import Derived.Below
set_option linter.unusedSimpArgs false
set_option linter.unusedVariables false
namespace Go.Proofs.YtjkifbkehochoaaGreatDoor.Ev
inductive Ex where
  | normal
  | exit (id : Nat)
  | ret
def Ex.to : Ex → Exit
  | .normal => .normal
  | .exit id => .exit id
  | .ret => .ret
/-- what follows from a state, wherever it is met -/
def Leads (s s' : St) (φ : Ren) (w : World) (K : Act → World → Prop) : Prop :=
  ∀ φ' a' w', Step φ s.h.get s.h.n w φ' s'.h.get s'.h.n w' → AR φ' s' a' → K a' w'
abbrev DrawF := Array Oper → St → Option St
def DrawOK (P : Program) (dr : DrawF) : Prop :=
  ∀ ops s s', dr ops s = some s' → ∀ φ a w, HR φ s.h.get s.h.n w → AR φ s a → ∀ (id : Nat) (Q : Exit → Act → World → Prop), Leads s s' φ w (Q .normal) → (Code.region id ops true).wp P Q a w
noncomputable def iter (f : St → Option (Ex × St)) (n : Nat) : St → Option (Ex × St) :=
  Nat.rec (motive := fun _ => St → Option (Ex × St)) (fun _ => none) (fun _ ih s => match f s with
    | some (.normal, s) => ih s
    | r => r) n
noncomputable def hasBody (P : Program) (f : FuncId) : Bool := match P.funcs[f]? with
  | some fn => fn.body.isSome && !(fn.name == "runtime.NumGoroutine")
  | none => false
def loop0 : Loop := { state := .ready, pending := none, fn := 0, tmps := #[], params := #[], assign := .skip, body := .skip, defers := 0 }
def loop1 : Loop := { loop0 with state := .exhausted }
/-- a range over a function that never yields -/
noncomputable def evRange (P : Program) (call : CallF) (g : Operand) (s : St) : Option (Ex × St) := match opnd s g with
  | some (.func (.func gf) a b) => match Nat.ble (Nat.add s.h.n 2) 65536 && hasBody P gf with
    | true => ob (call gf (a.toList ++ [.chan (some 0)] ++ b.toList) ((s.h.new (.obj (.deferred (some [])))).new (.obj (.loop loop0)))) fun r => match r.2.get (Nat.add s.h.n 1) with
      | some (.obj (.loop l)) => match l.state with
        | .ready => some (.normal, ⟨s.T, s.k, r.2.put (Nat.add s.h.n 1) (.obj (.loop loop1)), .mark s.h.n :: s.D⟩)
        | _ => none
      | _ => none
    | false => none
  | _ => none
noncomputable def evC (P : Program) (X : FuncId → List Value → Option Value) (call : CallF) (dr : DrawF) (c : Code) : St → Option (Ex × St) :=
  Code.rec (motive := fun _ => St → Option (Ex × St))
    (fun s => some (.normal, s))
    (fun _ ops d s => match d with
      | true => ob (dr ops s) fun s => some (.normal, s)
      | false => ob (evR P X call ops.toList ops.toList s) fun s => some (.normal, s))
    (fun _ _ ia ib s => match ia s with
      | some (.normal, s) => ib s
      | r => r)
    (fun c _ _ ia ib s => match opnd s c with
      | some (.bool true) => ia s
      | some (.bool false) => ib s
      | _ => none)
    (fun id _ ib s => match ib s with
      | some (.exit i, s) => match Nat.beq i id with
        | true => some (.normal, s)
        | false => some (.exit i, s)
      | r => r)
    (fun _ ib s => iter ib 1000000 s)
    (fun g _ _ _ _ _ s => evRange P call g s)
    (fun id s => some (.exit id, s))
    (fun _ _ _ => none)
    (fun _ s => some (.normal, s))
    (fun _ _ => none)
    (fun s => some (.ret, s))
    (fun _ _ => none) c
section
variable {P : Program} {X : FuncId → List Value → Option Value} {call : CallF} {dr : DrawF}
theorem Leads.mono {s s1 s' : St} {φ φ1 : Ren} {w w1 : World} {K : Act → World → Prop} (h : Leads s s' φ w K) (hs : Step φ s.h.get s.h.n w φ1 s1.h.get s1.h.n w1) : Leads s1 s' φ1 w1 K :=
  fun φ' a' w' h1 h2 => h φ' a' w' (hs.trans h1) h2
def CodeOK (P : Program) (c : Code) (f : St → Option (Ex × St)) : Prop :=
  ∀ s ex s', f s = some (ex, s') → ∀ φ a w, HR φ s.h.get s.h.n w → AR φ s a → ∀ Q : Exit → Act → World → Prop, Leads s s' φ w (Q ex.to) → c.wp P Q a w
def LoopWp (P : Program) (c : Code) (Q : Exit → Act → World → Prop) (a : Act) (w : World) : Prop :=
  ∀ (b : Frame) (k : List Item) (cs : List Frame), ∃ e a' w', Q e a' w' ∧ Arrives P (lone (b.at a (.code c :: .inLoop c :: k)) cs w) b k cs e a' w'
theorem LoopWp.wp {c : Code} {Q : Exit → Act → World → Prop} {a : Act} {w : World} (h : LoopWp P c Q a w) : (Code.loop c).wp P Q a w := fun b k cs =>
  let ⟨e, a', w', hq, harr⟩ := h b k cs
  ⟨e, a', w', hq, .of_steps (.one step_loop) harr⟩
theorem LoopWp.step {c : Code} {Q : Exit → Act → World → Prop} {a : Act} {w : World} (h : c.wp P (Exit.then (LoopWp P c Q) Q) a w) : LoopWp P c Q a w := by
  intro b k cs
  obtain ⟨e, a₁, w₁, hq, harr⟩ := h b (.inLoop c :: k) cs
  cases e with
  | normal =>
    obtain ⟨e₂, a₂, w₂, hq₂, harr₂⟩ := hq b k cs
    exact ⟨e₂, a₂, w₂, hq₂, .of_steps (Steps.trans harr (.one step_inLoop)) harr₂⟩
  | exit id => exact ⟨_, a₁, w₁, hq, .pass (x := .inLoop c) rfl (fun _ _ => .inl (by simp)) harr⟩
  | goto l => exact ⟨_, a₁, w₁, hq, .pass (x := .inLoop c) rfl (fun _ _ => .inl (by simp)) harr⟩
  | ret => exact ⟨_, a₁, w₁, hq, .pass (x := .inLoop c) rfl (fun _ _ => .inl (by simp)) harr⟩
  | panic ch => exact ⟨_, a₁, w₁, hq, .pass (x := .inLoop c) rfl (fun _ _ => .inl (by simp)) harr⟩
  | outgrown => exact ⟨_, a₁, w₁, hq, .pass (x := .inLoop c) rfl (fun _ _ => .inl (by simp)) harr⟩
theorem iter_ok {c : Code} {f : St → Option (Ex × St)} (hf : CodeOK P c f) : ∀ n s ex s', iter f n s = some (ex, s') → ∀ φ a w, HR φ s.h.get s.h.n w → AR φ s a → ∀ Q : Exit → Act → World → Prop, Leads s s' φ w (Q ex.to) → LoopWp P c Q a w := by
  intro n
  induction n with
  | zero => intro s ex s' h; cases h
  | succ n ih =>
    intro s ex s' h φ a w hr ha Q hQ
    replace h : (match f s with | some (.normal, s) => iter f n s | r => r) = some (ex, s') := h
    split at h
    · rename_i s1 h1
      refine LoopWp.step (hf s .normal s1 h1 φ a w hr ha _ fun φ' a' w' hs ha' => ?_)
      exact ih s1 ex s' h φ' a' w' hs.hr ha' Q (hQ.mono hs)
    · rename_i hn
      refine LoopWp.step (hf s ex s' h φ a w hr ha _ fun φ' a' w' hs ha' => ?_)
      cases ex with
      | normal => exact (hn s' h).elim
      | exit id => exact hQ φ' a' w' hs ha'
      | ret => exact hQ φ' a' w' hs ha'
theorem hasBody_run {f : FuncId} (h : hasBody P f = true) (args : Array Value) (w : World) : (callFunc f args).run P w = .ok (.enter f args) w := by
  unfold hasBody at h
  split at h
  · rename_i fn hf
    simp only [Bool.and_eq_true, Bool.not_eq_true'] at h
    have hne : ¬ fn.name = "runtime.NumGoroutine" := by simpa using h.2
    obtain ⟨c, hc⟩ := Option.isSome_iff_exists.1 h.1
    unfold callFunc
    simp [hf, hne, hc]
  · cases h
theorem wp_rangeFunc {g : Operand} {ps : Array Tmp} {assign body : Code} {Q : Exit → Act → World → Prop} {a : Act} {w : World}
    (h : ∀ fn : FuncId, ∃ (d : Deferred) (f : FuncId) (args : Array Value),
      (∀ w1, (resolve a.eval (rangeCall g (w.heap.size + 1)) 0).run P w1 = .ok d w1) ∧ (∀ w1, (invoke d.target d.args).run P w1 = .ok (.enter f args) w1) ∧
      Calls P f args ((w.alloc (.deferred (some []))).alloc (.loop { state := .ready, pending := none, fn, tmps := a.tmps, params := ps, assign, body, defers := w.heap.size })) fun e w3 => (∃ v, e = .returned v) ∧ ∃ w4, (Instr.endLoop (w.heap.size + 1)).run P w3 = .ok none w4 ∧ Q .normal { a with defers := { target := .collected w.heap.size, args := #[] } :: a.defers } w4) :
    (Code.rangeFunc g ps assign body).wp P Q a w := by
  intro b k cs
  obtain ⟨d, f, args, hres, hinv, hcall⟩ := h b.fn
  have he := run_enterLoop_outer (P := P) (w := w) b.fn a.tmps ps assign body
  obtain ⟨b0, hb0⟩ : ∃ b0 : Frame, b0 = { b with roundOf := none } := ⟨_, rfl⟩
  have hat : ∀ a' k', b0.atR a' k' = b.at a' k' := fun a' k' => by rw [hb0]; rfl
  have henter := stepR_rangeFunc (P := P) (b := b0) (a := a) (k := k) (cs := cs) (w := w) (g := g) (ps := ps) (assign := assign) (body := body) (by rw [hb0]; exact he) (hres _) (hinv _)
  rw [hat] at henter
  obtain ⟨e, w3, fr, ⟨⟨v, rfl⟩, w4, hend, hq⟩, hsteps, hfn, hleave⟩ := hcall (b0.atR { a with defers := [{ target := .collected w.heap.size, args := #[] }] ++ a.defers } (.inRangeFunc (w.heap.size + 1) :: k) :: cs)
  have h1 : step P (lone fr (b0.atR { a with defers := [{ target := .collected w.heap.size, args := #[] }] ++ a.defers } (.inRangeFunc (w.heap.size + 1) :: k) :: cs) w3) = .next (lone (b0.atR { a with defers := [{ target := .collected w.heap.size, args := #[] }] ++ a.defers } (.endRangeFunc (w.heap.size + 1) :: k)) cs w3) := by
    rw [← finish_atR_inRangeFunc _ v]; exact step_leave_returned hleave
  have h2 := stepR_endRangeFunc (P := P) (b := b0) (a := { a with defers := [{ target := .collected w.heap.size, args := #[] }] ++ a.defers }) (k := k) (cs := cs) hend
  refine ⟨.normal, _, w4, hq, ?_⟩
  have h3 := Steps.trans (Steps.one henter) (Steps.trans hsteps (Steps.trans (Steps.one h1) (Steps.one h2)))
  simp only [Option.map_none, Option.toList_none, List.nil_append] at h3
  rw [hat] at h3
  exact h3
theorem LR.unkArgs {φ : Ren} {a b c d : List Value} {l : Nat} (h : LR φ a b) (k : LR φ c d) : LR φ (a ++ [.chan (some 0)] ++ c) (b ++ [.func (.yield l) #[] #[]] ++ d) := (h.append (LR.cons (.yld l) LR.nil)).append k
theorem evRange_ok (hC : CallOK P call) {g : Operand} {ps : Array Tmp} {assign body : Code} {s : St} {ex : Ex} {s' : St} (h : evRange P call g s = some (ex, s')) (φ : Ren) (a : Act) (w : World) (hr : HR φ s.h.get s.h.n w) (ha : AR φ s a) (Q : Exit → Act → World → Prop) (hQ : Leads s s' φ w (Q ex.to)) :
    (Code.rangeFunc g ps assign body).wp P Q a w := by
  unfold evRange at h
  split at h
  · rename_i gf fa fb hg
    split at h
    · rename_i hc
      obtain ⟨c1, c2⟩ := Bool.and_eq_true_iff.1 hc
      have c1 : s.h.n + 2 ≤ 65536 := Nat.le_of_ble_eq_true c1
      obtain ⟨r, hcall, h⟩ := ob_some h
      obtain ⟨v, h3⟩ := r
      split at h
      · rename_i l hL
        split at h
        · rename_i hst
          cases h
          have hfv := opnd_run hr ha g _ hg
          generalize hy : a.eval g = y at hfv
          cases hfv with
          | @func _ a1 a2 b1 b2 hl1 hh1 kl kk =>
          refine wp_rangeFunc fun fn => ⟨{ target := .fn (.func gf) ⟨b2⟩, args := ⟨a2⟩ ++ #[.func (.yield (w.heap.size + 1)) #[] #[]] }, gf, ⟨a2 ++ [.func (.yield (w.heap.size + 1)) #[] #[]] ++ b2⟩, fun w1 => ?_, fun w1 => ?_, ?_⟩
          · show (Deferred.ofValue (a.eval g) _).run P w1 = _
            rw [hy]
            simp [rangeCall, Deferred.ofValue, Act.eval]
          · have := hasBody_run (P := P) c2 ⟨a2 ++ [.func (.yield (w.heap.size + 1)) #[] #[]] ++ b2⟩ w1
            rw [show invoke (.fn (.func gf) ⟨b2⟩) (⟨a2⟩ ++ #[.func (.yield (w.heap.size + 1)) #[] #[]]) = callFunc gf ((⟨a2⟩ ++ #[.func (.yield (w.heap.size + 1)) #[] #[]]) ++ ⟨b2⟩) from rfl]
            rw [show ((⟨a2⟩ : Array Value) ++ #[.func (.yield (w.heap.size + 1)) #[] #[]]) ++ ⟨b2⟩ = ⟨a2 ++ [.func (.yield (w.heap.size + 1)) #[] #[]] ++ b2⟩ from by apply Array.ext'; simp]
            exact this
          · have s1 : Step φ s.h.get s.h.n w (φ.at s.h.n w.heap.size 0) (s.h.new (.obj (.deferred (some [])))).get (s.h.n + 1) (w.alloc (.deferred (some []))) := by
              refine Step.alloc (B := .obj (.deferred (some []))) (o := .deferred (some [])) hr (by omega) rfl ⟨_, rfl, trivial⟩ trivial ?_ fun j hj => ?_
              · rw [Hp.get_new s.h _ (by omega), if_pos rfl]
              · rw [Hp.get_new s.h _ (by omega), if_neg hj]
            obtain ⟨h1, eh1⟩ : ∃ h1, h1 = s.h.new (.obj (.deferred (some []))) := ⟨_, rfl⟩
            have n1 : h1.n = s.h.n + 1 := by rw [eh1]; rfl
            rw [← eh1] at s1 hcall
            obtain ⟨w1, ew1⟩ : ∃ w1, w1 = w.alloc (.deferred (some [])) := ⟨_, rfl⟩
            have z1 : w1.heap.size = w.heap.size + 1 := by rw [ew1]; simp
            rw [← ew1] at s1 ⊢
            rw [← n1] at s1
            have s2 : Step (φ.at s.h.n w.heap.size 0) h1.get h1.n w1 ((φ.at s.h.n w.heap.size 0).at h1.n w1.heap.size 0) (h1.new (.obj (.loop loop0))).get (h1.n + 1) (w1.alloc (.loop { state := .ready, pending := none, fn, tmps := a.tmps, params := ps, assign, body, defers := w.heap.size })) := by
              refine Step.alloc (B := .obj (.loop loop0)) (o := .loop { state := .ready, pending := none, fn, tmps := a.tmps, params := ps, assign, body, defers := w.heap.size }) s1.hr (by omega) rfl ⟨_, rfl, rfl, rfl, rfl⟩ trivial ?_ fun j hj => ?_
              · rw [Hp.get_new h1 _ (by omega), if_pos rfl]
              · rw [Hp.get_new h1 _ (by omega), if_neg hj]
            have s12 := s1.trans s2
            obtain ⟨φ2, eφ2⟩ : ∃ φ2, φ2 = (φ.at s.h.n w.heap.size 0).at h1.n w1.heap.size 0 := ⟨_, rfl⟩
            have hD2 : φ2 s.h.n = some w.heap.size := by rw [eφ2, Ren.at_ne _ (by omega), Ren.at_same]
            have hL2 : φ2 (s.h.n + 1) = some (w.heap.size + 1) := by rw [eφ2, n1, Ren.at_same, z1]
            rw [← eφ2] at s12
            refine (hC gf _ _ v h3 hcall φ2 _ _ s12.hr (LR.unkArgs (LR.mono s12.ext ⟨hl1, hh1⟩) (LR.mono s12.ext ⟨kl, kk⟩))).mono ?_
            rintro e w3 ⟨φ3, v', rfl, hv, s3⟩
            refine ⟨⟨v', rfl⟩, ?_⟩
            have hL3 : φ3 (s.h.n + 1) = some (w.heap.size + 1) := (s3.ext _ _ hL2).1
            have hrow := s3.hr.row _ _ hL3
            rw [hL] at hrow
            obtain ⟨o', ho', hor⟩ := hrow
            cases o' with
            | loop r' =>
              obtain ⟨q1, q2, q3⟩ := hor
              have hend : (Instr.endLoop (w.heap.size + 1)).run P w3 = .ok none (w3.putObj (w.heap.size + 1) (.loop { r' with state := .exhausted })) := by
                rw [run_endLoop (P := P) ho' (by rw [← q1, hst]; simp)]
                exact congrArg (fun p => Result.ok p _) q3
              refine ⟨_, hend, ?_⟩
              have hlt := s3.hr.lt _ _ hL3
              have hbd := s3.hr.bnd
              have s4 : Step φ3 h3.get h3.n w3 φ3 (h3.put (s.h.n + 1) (.obj (.loop loop1))).get (h3.put (s.h.n + 1) (.obj (.loop loop1))).n (w3.putObj (w.heap.size + 1) (.loop { r' with state := .exhausted })) := by
                refine Step.write (i := s.h.n + 1) (b := w.heap.size + 1) (B := .obj (.loop loop1)) s3.hr hL3 (by rw [hL]; trivial) (by simp [World.putObj]) (fun c' hc' => World.putObj_heap_other hc') ⟨.loop { r' with state := .exhausted }, World.putObj_heap_same hlt.2, ⟨rfl, rfl, q3⟩⟩ trivial ?_ fun j hne => ?_
                · rw [Hp.get_put h3 _ (by omega), if_pos rfl]
                · rw [Hp.get_put h3 _ (by omega), if_neg hne]
              have s5 := (s12.trans s3).trans s4
              refine hQ φ3 _ _ s5 ⟨.mark (s3.ext _ _ hD2).1 (ha.d.mono s5.ext), ha.n, ha.b, fun t u ht hu => ?_⟩
              obtain ⟨u', k1, k2⟩ := ha.t t u ht hu
              exact ⟨u', k1, k2.mono s5.ext⟩
            | _ => exact hor.elim
        · cases h
      · cases h
    · cases h
  · cases h
theorem evC_ok (hX : ExtOK P X) (hC : CallOK P call) (hD : DrawOK P dr) : ∀ c : Code, CodeOK P c (evC P X call dr c) := by
  intro c
  induction c with
  | skip => intro s ex s' h φ a w hr ha Q hQ; cases h; exact wp_skip (hQ φ a w (Step.refl hr) ha)
  | region id ops d =>
    intro s ex s' h φ a w hr ha Q hQ
    cases d with
    | true =>
      replace h : (ob (dr ops s) fun s => some (Ex.normal, s)) = some (ex, s') := h
      replace h := ob_some h
      obtain ⟨s1, h1, h⟩ := h
      cases h
      exact hD ops s s' h1 φ a w hr ha id Q hQ
    | false =>
      replace h : (ob (evR P X call ops.toList ops.toList s) fun s => some (Ex.normal, s)) = some (ex, s') := h
      replace h := ob_some h
      obtain ⟨s1, h1, h⟩ := h
      cases h
      refine wp_region ?_
      rw [List.range_eq_range']
      have := evR_wp hX hC (ops := ops) (Q := Q) ops.toList 0 rfl s s' h1 φ a w hr ha hQ
      simpa using this
  | seq x y ix iy =>
    intro s ex s' h φ a w hr ha Q hQ
    replace h : (match evC P X call dr x s with | some (.normal, s) => evC P X call dr y s | r => r) = some (ex, s') := h
    refine wp_seq ?_
    split at h
    · rename_i s1 h1
      refine ix s .normal s1 h1 φ a w hr ha _ fun φ' a' w' hs ha' => ?_
      exact iy s1 ex s' h φ' a' w' hs.hr ha' Q (hQ.mono hs)
    · rename_i hn
      refine ix s ex s' h φ a w hr ha _ fun φ' a' w' hs ha' => ?_
      cases ex with
      | normal => exact (hn s' h).elim
      | exit id => exact hQ φ' a' w' hs ha'
      | ret => exact hQ φ' a' w' hs ha'
  | cond c x y ix iy =>
    intro s ex s' h φ a w hr ha Q hQ
    replace h : (match opnd s c with | some (.bool true) => evC P X call dr x s | some (.bool false) => evC P X call dr y s | _ => none) = some (ex, s') := h
    split at h
    · rename_i hc
      exact wp_cond_true (opnd_run hr ha _ _ hc).bool' (ix s ex s' h φ a w hr ha Q hQ)
    · rename_i hc
      exact wp_cond_false (opnd_run hr ha _ _ hc).bool' (iy s ex s' h φ a w hr ha Q hQ)
    · cases h
  | block id x ix =>
    intro s ex s' h φ a w hr ha Q hQ
    replace h : (match evC P X call dr x s with | some (.exit i, s) => (match Nat.beq i id with | true => some (Ex.normal, s) | false => some (.exit i, s)) | r => r) = some (ex, s') := h
    refine wp_block ?_
    split at h
    · rename_i i s1 h1
      split at h
      · rename_i hi
        cases h
        have hi := Nat.eq_of_beq_eq_true hi
        refine ix s _ _ h1 φ a w hr ha _ fun φ' a' w' hs ha' => ?_
        show (if i = id then Q .normal a' w' else Q (.exit i) a' w')
        rw [if_pos hi]
        exact hQ φ' a' w' hs ha'
      · rename_i hi
        cases h
        refine ix s _ _ h1 φ a w hr ha _ fun φ' a' w' hs ha' => ?_
        show (if i = id then Q .normal a' w' else Q (.exit i) a' w')
        rw [if_neg (fun he => by rw [he, Nat.beq_refl] at hi; cases hi)]
        exact hQ φ' a' w' hs ha'
    · rename_i hn
      refine ix s ex s' h φ a w hr ha _ fun φ' a' w' hs ha' => ?_
      cases ex with
      | normal => exact hQ φ' a' w' hs ha'
      | exit i => exact (hn i s' h).elim
      | ret => exact hQ φ' a' w' hs ha'
  | loop x ix =>
    intro s ex s' h φ a w hr ha Q hQ
    exact (iter_ok ix 1000000 s ex s' h φ a w hr ha Q hQ).wp
  | rangeFunc g ps x y ix iy => intro s ex s' h; exact evRange_ok hC h
  | exit id => intro s ex s' h φ a w hr ha Q hQ; cases h; exact wp_exit (hQ φ a w (Step.refl hr) ha)
  | scope x ix => intro s ex s' h; cases h
  | label l => intro s ex s' h φ a w hr ha Q hQ; cases h; exact wp_label (hQ φ a w (Step.refl hr) ha)
  | goto l => intro s ex s' h; cases h
  | ret => intro s ex s' h φ a w hr ha Q hQ; cases h; exact wp_ret (hQ φ a w (Step.refl hr) ha)
  | refuse why => intro s ex s' h; cases h
noncomputable def initT (l : List Value) : Nat → TT → TT :=
  List.rec (motive := fun _ => Nat → TT → TT) (fun _ T => T) (fun v _ ih i T => ih (Nat.add i 1) (TT.set T i v)) l
noncomputable def resV (P : Program) (s : St) (r : ResultVar) : Option Value := match r with
  | .tmp t => opnd s (.tmp t)
  | .cell a t => ob (opnd s (.tmp a)) fun x => loadV P s.h.get t x
noncomputable def oneV (l : List Value) : Value := match l with
  | [v] => v
  | l => .tuple ⟨l⟩
noncomputable def resS (P : Program) (fn : Func) (s : St) : Option (Value × Hp) := ob (mapO (resV P s) fn.results.toList) fun l => some (oneV l, s.h)
noncomputable def evBody (P : Program) (X : FuncId → List Value → Option Value) (call : CallF) (dr : DrawF) (f : FuncId) (args : List Value) (h : Hp) : Option (Func × St) :=
  match P.funcs[f]? with
  | some fn => match fn.body, Nat.ble args.length fn.ntmps && Nat.ble fn.ntmps 4096 with
    | some c, true => match evC P X call dr c ⟨initT args 0 TT.nil, fn.ntmps, h, []⟩ with
      | some (.exit _, _) | none => none
      | some (_, s) => some (fn, s)
    | _, _ => none
  | none => none
noncomputable def isRec (o : Oper) : Bool := match o.op with
  | .call c => match c.callee with
    | .builtin .recover => true
    | _ => false
  | _ => false
/-- the body of a call that is put off, where nothing panics: recover tells nil -/
noncomputable def evRec (P : Program) (X : FuncId → List Value → Option Value) (call : CallF) (dr : DrawF) (c : Code) (s : St) : Option (Ex × St) := match c with
  | .seq (.region _ ops false) y => match ops.toList with
    | [o] => match isRec o, o.guard with
      | true, none => ob (s.put o.dst .nilIface) fun s => evC P X call dr y s
      | _, _ => none
    | _ => none
  | _ => none
noncomputable def evDefer (P : Program) (X : FuncId → List Value → Option Value) (call : CallF) (dr : DrawF) (f : FuncId) (args : List Value) (h : Hp) : Option Hp :=
  match P.funcs[f]? with
  | some fn => match fn.body, Nat.ble args.length fn.ntmps && Nat.ble fn.ntmps 4096 && !(fn.name == "runtime.NumGoroutine") with
    | some c, true => match (match evC P X call dr c ⟨initT args 0 TT.nil, fn.ntmps, h, []⟩ with
        | some r => some r
        | none => evRec P X call dr c ⟨initT args 0 TT.nil, fn.ntmps, h, []⟩) with
      | some (.exit _, _) | none => none
      | some (_, s) => match s.D with
        | [] => ob (resS P fn s) fun x => some x.2
        | _ => none
    | _, _ => none
  | none => none
noncomputable def evDI (P : Program) (X : FuncId → List Value → Option Value) (call : CallF) (dr : DrawF) (x : DI) (h : Hp) : Option Hp := match x with
  | .call f args => evDefer P X call dr f args h
  | .mark i => match h.get i with
    | some (.obj (.deferred (some []))) => some (h.put i (.obj (.deferred none)))
    | _ => none
noncomputable def evDefers (P : Program) (X : FuncId → List Value → Option Value) (call : CallF) (dr : DrawF) (l : List DI) : Hp → Option Hp :=
  List.rec (motive := fun _ => Hp → Option Hp) (fun h => some h) (fun x _ ih h => ob (evDI P X call dr x h) ih) l
noncomputable def evCall (P : Program) (X : FuncId → List Value → Option Value) (Sm : CallF) (D : CallF → DrawF) (d : Nat) : CallF :=
  Nat.rec (motive := fun _ => CallF) (fun _ _ _ => none) (fun _ ih f args h => match Sm f args h with
    | some r => some r
    | none => ob (evBody P X ih (D ih) f args h) fun r => ob (evDefers P X ih (D ih) r.2.D r.2.h) fun h => resS P r.1 ⟨r.2.T, r.2.k, h, r.2.D⟩) d
end
end Go.Proofs.YtjkifbkehochoaaGreatDoor.Ev
namespace Go.Proofs.YtjkifbkehochoaaGreatDoor.Ev
noncomputable def rngB (n : Nat) (f : Nat → Bool) : Bool := Nat.rec (motive := fun _ => Bool) true (fun k ih => match f k with | true => ih | false => false) n
theorem rngB_spec {f : Nat → Bool} : ∀ {n : Nat}, rngB n f = true → ∀ k, k < n → f k = true
  | 0, _, k, hk => by omega
  | n + 1, h, k, hk => by
    replace h : (match f n with | true => rngB n f | false => false) = true := h
    split at h
    · rename_i hn
      by_cases e : k = n
      · subst e; exact hn
      · exact rngB_spec h k (by omega)
    · cases h
noncomputable def veqO (a : Option Value) (b : Value) : Bool := match a with
  | some a => veq 64 a b
  | none => false
theorem veqO_spec {a : Option Value} {b : Value} (h : veqO a b = true) : a = some b := by
  unfold veqO at h
  split at h
  · rw [veq_spec h]
  · cases h
noncomputable def mayB (A : List Nat) (z : DA) (i k : Nat) : Bool := rngB z.q fun q => (!(bits A i (z.e q)) || Nat.ble (Nat.add q 1) k) && (!(bits A (z.e q) i) || Nat.ble k q)
theorem mayB_of {A : List Nat} {z : DA} {i k : Nat} (h1 : ∀ q, q < z.q → bits A i (z.e q) = true → q < k) (h2 : ∀ q, q < z.q → bits A (z.e q) i = true → k ≤ q) : mayB A z i k = true := by
  unfold mayB
  have : ∀ n, n ≤ z.q → rngB n (fun q => (!(bits A i (z.e q)) || Nat.ble (Nat.add q 1) k) && (!(bits A (z.e q) i) || Nat.ble k q)) = true := by
    intro n
    induction n with
    | zero => intro _; rfl
    | succ n ih =>
      intro hn
      show (match (!(bits A i (z.e n)) || Nat.ble (Nat.add n 1) k) && (!(bits A (z.e n) i) || Nat.ble k n) with | true => rngB n _ | false => false) = true
      have : ((!(bits A i (z.e n)) || Nat.ble (Nat.add n 1) k) && (!(bits A (z.e n) i) || Nat.ble k n)) = true := by
        rw [Bool.and_eq_true, Bool.or_eq_true, Bool.or_eq_true]
        refine ⟨?_, ?_⟩
        · cases hb : bits A i (z.e n) with
          | false => exact .inl rfl
          | true => exact .inr (Nat.ble_eq_true_of_le (h1 n (by omega) hb))
        · cases hb : bits A (z.e n) i with
          | false => exact .inl rfl
          | true => exact .inr (Nat.ble_eq_true_of_le (h2 n (by omega) hb))
      rw [this]
      exact ih (by omega)
  exact this _ (Nat.le_refl _)
/-- what is left to be looked at when all has run -/
noncomputable def finD (P : Program) (A : List Nat) (N n0 : Nat) (z : DA) (ops : List Oper) : Bool :=
  allI (fun i o => match z.kind i with
    | .val => match isL o with
      | false => true
      | true => rngB (Nat.add z.q 1) fun k => match mayB A z i k with
        | false => true
        | true => veqO (evV P (contD N n0 z.kind z.V z.ins k) (z.rho i) o) (z.val i)
    | .alloc _ _ => rngB z.q fun q => match z.ins (Nat.add q 1) i with
      | true => true
      | false => match (z.V q).get (Nat.add n0 i) with
        | none => true
        | some _ => false
    | _ => true) ops 0
noncomputable def evD (P : Program) (X : FuncId → List Value → Option Value) (call : CallF) : DrawF := fun ops s =>
  match Nat.ble (Nat.add s.h.n ops.toList.length) 65536 && Nat.ble s.k 4096 && statOK ops.toList (masks ops.toList []) with
  | false => none
  | true => ob (runD P X call (masks ops.toList []) ops.toList s s.h.n ops.toList 0 (initD s ⟨Nat.add s.h.n ops.toList.length, s.h.m⟩)) fun z =>
    match finD P (masks ops.toList []) ops.toList.length s.h.n z ops.toList with
    | false => none
    | true => some ⟨z.T, s.k, puts s.h.n z.pend z.h, s.D⟩
section
variable {P : Program} {X : FuncId → List Value → Option Value} {call : CallF} {ops : Array Oper} {s : St} {n0 : Nat} {h0 : Hp} {A : List Nat}
noncomputable def mkDOK (hS : SOK ops A) (hb : s.h.n + ops.size ≤ 65536) {z : DA} (hc : CI ops s A z ops.size) (he : EI P X call ops s.h.n ⟨s.h.n + ops.size, s.h.m⟩ A z ops.size) (hf : finD P A ops.size s.h.n z ops.toList = true) : DOK P X call ops s s.h.n where
  anc := fun i j => bits A i j = true
  val := z.val
  rho := z.rho
  want := z.want
  kind := z.kind
  m := z.q
  e := z.e
  V := z.V
  I := z.I
  ins := z.ins
  hn0 := Nat.le_refl _
  hb0 := hb
  edge := hS.edge
  hanc := hS.anc
  hdst := hS.dst
  hdk := fun i o d ho hd => hc.cd i o d (Array.getElem?_eq_some_iff.1 ho).1 ho hd
  hrho := fun i o t v ho hr => by
    obtain ⟨h1, h2, h3⟩ := hc.cr i o t v (Array.getElem?_eq_some_iff.1 ho).1 ho hr
    refine ⟨h1, ?_⟩
    rcases h3 with ⟨j, oj, a1, a2, a3, a4⟩ | ⟨a1, a2⟩
    · exact .inl ⟨j, oj, a2, a3, (hS.read i j o oj t ho a2 h2 a3).1 a1, a4⟩
    · refine .inr ⟨fun j oj hj hd => ?_, a2⟩
      rcases Nat.lt_trichotomy j i with h | h | h
      · exact absurd hd (a1 j oj h hj)
      · exact .inl h
      · exact .inr ((hS.read i j o oj t ho hj h2 hd).2 h)
  hrho' := fun i x v hx hr => by
    by_cases hi : i < ops.size
    · exact hc.cr' i x v hi hx hr
    · exact (hc.c0 i x v (by omega) hr).elim
  hwant := fun i o ho => by
    rcases hc.cw i o (Array.getElem?_eq_some_iff.1 ho).1 ho with h | ⟨g, b, p, d, a1, a2, a3, a4, a5⟩
    · exact .inl h
    · exact .inr ⟨g, b, p, d, a1, a2, a3, a4, a5⟩
  hskip := fun i o ho hw => hc.cs i (Array.getElem?_eq_some_iff.1 ho).1 hw
  hwk := fun i o ho hw => hc.ck i (Array.getElem?_eq_some_iff.1 ho).1 hw
  hval := fun i o ho hk k hkm h1 h2 => by
    have h := allI_spec hf i o (by simpa using ho)
    simp only [Nat.zero_add, hk] at h
    split at h
    · rename_i hl
      obtain ⟨C, hC⟩ := he.v1 i o (Array.getElem?_eq_some_iff.1 ho).1 ho hk
      rw [← hC]
      exact evV_free hl
    · have h := rngB_spec h k (Nat.lt_succ_of_le hkm)
      rw [mayB_of h1 h2] at h
      exact veqO_spec h
  halloc := fun i o B mk ho hk => he.a1 i o B mk (Array.getElem?_eq_some_iff.1 ho).1 ho hk
  hlive := fun i B mk hk => he.al i B mk hk
  heff := fun i o q ho hk => he.e1 i o q (Array.getElem?_eq_some_iff.1 ho).1 ho hk
  he := fun q hq => (he.e2 q hq).1
  hel := fun q hq => by have := (he.e2 q hq).2; omega
  hord := he.e3
  hV0 := by rw [he.v0]; exact ⟨rfl, fun _ => rfl⟩
  hins0 := he.i0
  hins := he.ia
  hmono := he.im
  hIn := he.inn
  hI := fun q id hq => by
    have out : ∀ j, z.ins (q + 1) j = true → j < ops.size ∧ ∃ B mk, z.kind j = .alloc B mk := fun j hj => by
      obtain ⟨B, mk, a⟩ := he.p2 (q + 1) j hq hj
      refine ⟨?_, B, mk, a⟩
      rcases Nat.lt_or_ge j ops.size with h1 | h1
      · exact h1
      · rw [he.k0 j h1] at a; cases a
    by_cases hr : s.h.n ≤ id ∧ id < s.h.n + ops.size
    · rw [if_pos hr]
      obtain ⟨j, rfl⟩ : ∃ j, id = s.h.n + j := ⟨id - s.h.n, by omega⟩
      rw [Nat.add_sub_cancel_left]
      split
      · rename_i B mk hk
        by_cases i1 : z.ins q j = true
        · rw [if_pos i1]
          exact he.eb q _ hq fun j' hj' _ => by rw [show j' = j by omega]; exact i1
        · rw [if_neg i1]
          have i1 : z.ins q j = false := by simpa using i1
          by_cases i2 : z.ins (q + 1) j = true
          · rw [if_pos i2]
            exact he.ea q j B mk hq hk i1 i2
          · rw [if_neg i2]
            have i2 : z.ins (q + 1) j = false := by simpa using i2
            rw [he.eb q _ hq fun j' hj' h' => by rw [show j' = j by omega, i2] at h'; cases h']
            have hj : j < ops.size := by omega
            have h := allI_spec hf j ops[j] (by simp [hj])
            simp only [Nat.zero_add, hk] at h
            have h := rngB_spec h q hq
            replace h : (match z.ins (q + 1) j with | true => true | false => match (z.V q).get (s.h.n + j) with | none => true | some _ => false) = true := h
            rw [i2] at h
            simp only at h
            split at h
            · rename_i hg; exact hg
            · cases h
      · rename_i hk
        exact he.eb q _ hq fun j' hj' h' => by
          obtain ⟨-, B, mk, a⟩ := out j' h'
          rw [show j' = j by omega] at a
          exact absurd a (hk B mk)
    · rw [if_neg hr]
      exact he.eb q id hq fun j' hj' h' => by
        obtain ⟨a, -⟩ := out j' h'
        omega
end
end Go.Proofs.YtjkifbkehochoaaGreatDoor.Ev
namespace Go.Proofs.YtjkifbkehochoaaGreatDoor.Ev
section
variable {P : Program} {X : FuncId → List Value → Option Value} {call : CallF}
theorem puts_final {ops : Array Oper} {s : St} {A : List Nat} {z : DA} (hb : s.h.n + ops.size ≤ 65536) {h0 : Hp} (he : EI P X call ops s.h.n h0 A z ops.size) (id : Nat) :
    contD ops.size s.h.n z.kind z.V z.ins z.q id = (puts s.h.n z.pend z.h).get id := by
  have pl : ∀ p ∈ z.pend, p.1 < ops.size ∧ ∃ mk, z.kind p.1 = .alloc p.2 mk ∧ z.ins z.q p.1 = false := fun p hp => by
    obtain ⟨⟨mk, hk⟩, h2⟩ := (he.p1 p.1 p.2).1 hp
    refine ⟨?_, mk, hk, h2⟩
    rcases Nat.lt_or_ge p.1 ops.size with h1 | h1
    · exact h1
    · rw [he.k0 _ h1] at hk; cases hk
  have pb : ∀ p ∈ z.pend, s.h.n + p.1 < 65536 := fun p hp => by have := (pl p hp).1; omega
  have out : (∀ p ∈ z.pend, id ≠ s.h.n + p.1) → (z.V z.q).get id = (puts s.h.n z.pend z.h).get id := fun h => by rw [puts_none pb h, he.vq]
  unfold contD
  split
  · rename_i hr
    obtain ⟨j, rfl⟩ : ∃ j, id = s.h.n + j := ⟨id - s.h.n, by omega⟩
    rw [Nat.add_sub_cancel_left]
    split
    · rename_i B mk hk
      split
      · rename_i hi
        refine out fun p hp e => ?_
        obtain ⟨-, mk', -, h2⟩ := pl p hp
        rw [show p.1 = j by omega, hi] at h2
        cases h2
      · rename_i hi
        refine (puts_some pb (fun p hp hj => ?_) ((he.p1 j B).2 ⟨⟨mk, hk⟩, by simpa using hi⟩)).symm
        obtain ⟨-, mk', h1, -⟩ := pl p hp
        rw [hj, hk] at h1
        cases h1
        rfl
    · rename_i hk
      refine out fun p hp e => ?_
      obtain ⟨-, mk', h1, -⟩ := pl p hp
      rw [show p.1 = j by omega] at h1
      exact hk _ _ h1
  · rename_i hr
    refine out fun p hp e => ?_
    have := (pl p hp).1
    omega
theorem evD_ok (hX : ExtOK P X) (hC : CallOK P call) (hm : P.follows .mixedOrders = true) : DrawOK P (evD P X call) := by
  intro ops s s' h φ a w hr ha id Q hQ
  unfold evD at h
  split at h
  · cases h
  rename_i hchk
  simp only [Bool.and_eq_true] at hchk
  obtain ⟨⟨c1, c2⟩, c3⟩ := hchk
  obtain ⟨z, hz, h⟩ := ob_some h
  split at h
  · cases h
  rename_i hf
  cases h
  have hb : s.h.n + ops.size ≤ 65536 := by have := Nat.le_of_ble_eq_true c1; simpa using this
  have hk : s.k ≤ 4096 := Nat.le_of_ble_eq_true c2
  have hS := SOK.of c3
  rw [show ops.toList.length = ops.size by simp] at hz hf
  obtain ⟨A, hA⟩ : ∃ A, A = masks ops.toList [] := ⟨_, rfl⟩
  rw [← hA] at hz hf hS
  obtain ⟨hc, he⟩ := runD_ok (P := P) (X := X) (call := call) (n0 := s.h.n) (h0 := ⟨s.h.n + ops.size, s.h.m⟩) hS hk hb ops.toList 0 _ z (fun j o hj => by rw [Nat.zero_add]; simpa using hj) CI.init EI.init hz
  rw [Nat.zero_add, show ops.toList.length = ops.size by simp] at hc he
  obtain ⟨d, hd⟩ : ∃ d : DOK P X call ops s s.h.n, d = mkDOK hS hb hc he hf := ⟨_, rfl⟩
  have dm : d.m = z.q := by rw [hd]; rfl
  have dV : d.V = z.V := by rw [hd]; rfl
  have dk : d.kind = z.kind := by rw [hd]; rfl
  have dn : d.ins = z.ins := by rw [hd]; rfl
  have dv : d.val = z.val := by rw [hd]; rfl
  obtain ⟨w1, hw1⟩ : ∃ w1 : World, w1 = { w with drawn := w.drawn + 1 } := ⟨_, rfl⟩
  have s1 := hr.world (w' := w1) (by rw [hw1])
  refine wp_region_any hm ?_
  rw [← hw1]
  have C0 : ∀ i, i < s.h.n → d.C 0 i = s.h.get i := fun i hi => by
    show contD _ _ _ _ _ _ _ = _
    unfold contD
    rw [if_neg (by omega)]
    exact d.hV0.2 i
  have Cro : ∀ i cs, d.C 0 i = some (.ro cs) → s.h.get i = some (.ro cs) := fun i cs h => by
    by_cases hp : d.pend 0 i
    · obtain ⟨B, mk, h1, h2⟩ := d.C_pend hp
      have := d.hlive _ _ _ h1
      rw [h2] at h
      cases h
      exact this.elim
    · rw [d.C_not hp] at h; rw [← d.hV0.2 i]; exact h
  have hr1 := s1.hr
  have hr0 : HR φ (d.C 0) (d.V 0).n w1 := by
    rw [d.hV0.1]
    refine ⟨hb, fun i cs h => by have := hr1.ro i cs (Cro i cs h); exact ⟨by omega, this.2⟩, fun i b hi => by have := hr1.lt i b hi; omega, fun i j b hi hj hl ht => ?_, fun i b hi => ?_⟩
    · rw [C0 i (hr1.lt i b hi).1] at hl
      rw [C0 j (hr1.lt j b hj).1] at ht
      exact hr1.inj i j b hi hj hl ht
    · rw [C0 i (hr1.lt i b hi).1]
      exact hr1.row i b hi
  refine draw_wp hX hC d (φ0 := φ) (w0 := w1) (fun φ' a' w' hst h1 h2 h3 h4 => ?_) ops.size 0 φ _ a w1 ⟨List.range ops.size, by simp, fun i hi => .inr (List.mem_range.2 hi)⟩ ?_
  · refine hQ φ' a' w' (s1.trans ?_) ⟨h1.mono hst.ext, h2, hk, fun t v ht hv => ?_⟩
    · show Step φ s.h.get s.h.n w1 φ' (puts s.h.n z.pend z.h).get (puts s.h.n z.pend z.h).n w'
      rw [puts_n, show z.h.n = (z.V z.q).n by rw [he.vq]]
      have hCe : d.C d.m = (puts s.h.n z.pend z.h).get := by
        funext i
        rw [← puts_final hb he i]
        show contD _ _ _ _ _ _ _ = _
        rw [dm, dV, dk, dn]
      rw [hCe, dm, dV] at hst
      exact hst
    · rcases hc.cT t v ht hv with ⟨j, oj, a1, a2, a3, a4⟩ | ⟨a1, a2⟩
      · rw [a4, ← dv]; exact h3 j oj t a2 a3
      · exact h4 t v ht a2 fun j oj hj => a1 j oj (Array.getElem?_eq_some_iff.1 hj).1 hj
  · have no : ∀ i, ¬ LD (Array.replicate ops.size false) i := fun i h => by
      unfold LD at h
      rw [Array.getElem?_replicate] at h
      split at h <;> simp at h
    refine ⟨by simp, fun i o hl => absurd hl (no i), Nat.zero_le _, fun q hq => ⟨fun h => absurd h (no _), fun h => absurd h (Nat.not_lt_zero _)⟩, ⟨hr0, φ.le_refl, fun _ _ _ h => h, by rw [d.hV0.1]; omega, fun i hi hl => by rw [C0 i hi] at hl; exact hl, fun i cs h => Cro i cs h, fun i b hi hb' => absurd (hr1.lt i b hb').1 (by omega), Nat.le_refl _, fun _ _ _ => rfl, .refl w1⟩, by rw [d.hV0.1]; exact Nat.le_refl _, fun j hj _ => ?_, ha.d, ha.n, fun j oj t hl => absurd hl (no j), fun t v ht hv _ => ha.t t v ht hv, fun g cs h => (hr1.ro g cs h).2⟩
    cases hφ : φ (s.h.n + j) with
    | none => rfl
    | some b => exact absurd (hr1.lt _ b hφ).1 (by omega)
end
end Go.Proofs.YtjkifbkehochoaaGreatDoor.Ev
namespace Go.Proofs.YtjkifbkehochoaaGreatDoor.Ev
theorem TT.nil_get (t : Nat) : TT.nil.get t = none := by
  show (mkSel _).get ((mkSel _).get ((mkSel _).get (full (full (full none))))) = none
  rw [full_get, full_get, full_get]
theorem initT_get : ∀ (l : List Value) (i : Nat) (T : TT), i + l.length ≤ 4096 → ∀ t, t < 4096 → (initT l i T).get t = if i ≤ t ∧ t < i + l.length then l[t - i]? else T.get t
  | [], i, T, h, t, ht => by
    show T.get t = _
    rw [if_neg (by simp)]
  | v :: l, i, T, h, t, ht => by
    have hl : (v :: l).length = l.length + 1 := rfl
    rw [hl] at h ⊢
    show (initT l (i + 1) (TT.set T i v)).get t = _
    rw [initT_get l (i + 1) _ (by omega) t ht]
    by_cases e : t = i
    · subst e
      rw [if_neg (by omega), if_pos (by omega), TT.get_same _ _ _ ht, Nat.sub_self]
      rfl
    · rw [TT.get_ne T i t v (by omega) ht (fun x => e x.symm)]
      by_cases hc : i + 1 ≤ t ∧ t < i + 1 + l.length
      · rw [if_pos hc, if_pos (by omega), show t - i = (t - (i + 1)) + 1 by omega]
        rfl
      · rw [if_neg hc, if_neg (by omega)]
section
variable {P : Program}
theorem init_AR {φ : Ren} {args args' : List Value} {n : Nat} {h : Hp} (ha : LR φ args args') (h1 : args.length ≤ n) (h2 : n ≤ 4096) :
    AR φ ⟨initT args 0 TT.nil, n, h, []⟩ { tmps := (⟨args'⟩ : Array Value) ++ Array.replicate (n - (⟨args'⟩ : Array Value).size) undef, defers := [] } := by
  have hl := ha.1
  refine ⟨.nil, ?_, h2, fun t v ht hv => ?_⟩
  · simp; omega
  · simp only at ht hv
    rw [initT_get args 0 TT.nil (by omega) t (by omega)] at hv
    split at hv
    · rename_i hc
      obtain ⟨y, hy, hr⟩ := ha.at hv
      refine ⟨y, ?_, hr⟩
      have hlt : t < args'.length := by omega
      rw [Array.getElem?_append_left (by simpa using hlt)]
      simpa using hy
    · rw [TT.nil_get] at hv; cases hv
theorem mapM_run {α : Type} {f : α → Sem Value} {w : World} : ∀ (l : List α) (vs : List Value), vs.length = l.length → (∀ (i : Nat) x v, l[i]? = some x → vs[i]? = some v → (f x).run P w = .ok v w) → (l.mapM f).run P w = .ok vs w
  | [], vs, h, _ => by
    cases vs with
    | nil => simp
    | cons a b => simp at h
  | x :: l, vs, h, hf => by
    cases vs with
    | nil => simp at h
    | cons v vs =>
      have h0 := hf 0 x v rfl rfl
      have ih := mapM_run l vs (by simpa using h) fun i y u hy hu => hf (i + 1) y u (by simpa using hy) (by simpa using hu)
      simp [List.mapM_cons, h0, ih]
theorem results_run {φ : Ren} {s : St} {a : Act} {w : World} (hr : HR φ s.h.get s.h.n w) (ha : AR φ s a) {fn : Func} {l : List Value} (h : mapO (resV P s) fn.results.toList = some l) :
    ∃ v', VR φ (oneV l) v' ∧ (results fn a.tmps).run P w = .ok v' w := by
  obtain ⟨h1, h2⟩ := mapO_spec h
  have key : ∀ (i : Nat) (r : ResultVar), fn.results.toList[i]? = some r → ∃ v v', l[i]? = some v ∧ VR φ v v' ∧ (match r with
      | .tmp t => pure (a.tmps.getD t undef)
      | .cell b t => do loadVar t (← asAddr (a.tmps.getD b undef)) : Sem Value).run P w = .ok v' w := by
    intro i r hi
    obtain ⟨v, hv, hf⟩ := h2 i r hi
    cases r with
    | tmp t =>
      have := opnd_run hr ha (.tmp t) v hf
      exact ⟨v, _, hv, this, rfl⟩
    | cell b t =>
      replace hf : (ob (opnd s (.tmp b)) fun x => loadV P s.h.get t x) = some v := hf
      replace hf := ob_some hf
      obtain ⟨x, hx, hf⟩ := hf
      obtain ⟨ad, e1, v', e2, e3⟩ := loadV_run (P := P) hr (opnd_run hr ha (.tmp b) x hx) hf
      refine ⟨v, v', hv, e2, ?_⟩
      have : a.tmps.getD b undef = .pointer (some ad) := e1
      simp [this, asAddr, e3]
  obtain ⟨l', hl'⟩ : ∃ l' : List Value, LR φ l l' ∧ (fn.results.toList.mapM fun r => (match r with
      | .tmp t => pure (a.tmps.getD t undef)
      | .cell b t => do loadVar t (← asAddr (a.tmps.getD b undef)) : Sem Value)).run P w = .ok l' w := by
    have hall : ∀ n, n ≤ fn.results.toList.length → ∃ l' : List Value, l'.length = n ∧ ∀ (i : Nat) r v', fn.results.toList[i]? = some r → l'[i]? = some v' → (∃ v, l[i]? = some v ∧ VR φ v v') ∧ (match r with
      | .tmp t => pure (a.tmps.getD t undef)
      | .cell b t => do loadVar t (← asAddr (a.tmps.getD b undef)) : Sem Value).run P w = .ok v' w := by
      intro n
      induction n with
      | zero => intro _; exact ⟨[], rfl, fun i r v' _ h => by simp at h⟩
      | succ n ih =>
        intro hn
        obtain ⟨l', e1, e2⟩ := ih (by omega)
        obtain ⟨v, v', k1, k2, k3⟩ := key n _ (List.getElem?_eq_getElem (by omega))
        refine ⟨l' ++ [v'], by simp [e1], fun i r u hi hu => ?_⟩
        by_cases hin : i < n
        · rw [List.getElem?_append_left (by omega)] at hu
          exact e2 i r u hi hu
        · rw [List.getElem?_append_right (by omega)] at hu
          have hi2 : i = n := by
            have := (List.getElem?_eq_some_iff.1 hu).1
            simp at this
            omega
          subst hi2
          rw [e1] at hu
          simp at hu
          subst hu
          rw [List.getElem?_eq_getElem (by omega)] at hi
          cases hi
          exact ⟨⟨v, k1, k2⟩, k3⟩
    obtain ⟨l', e1, e2⟩ := hall _ (Nat.le_refl _)
    refine ⟨l', ⟨by omega, fun i x y hx hy => ?_⟩, mapM_run _ _ e1 fun i r v hr hv => (e2 i r v hr hv).2⟩
    have hlt : i < fn.results.toList.length := by rw [← e1]; exact (List.getElem?_eq_some_iff.1 hy).1
    obtain ⟨⟨v, q1, q2⟩, -⟩ := e2 i _ y (List.getElem?_eq_getElem hlt) hy
    rw [hx] at q1
    cases q1
    exact q2
  obtain ⟨hL, hm⟩ := hl'
  refine ⟨if h : l'.toArray.size = 1 then l'.toArray[0] else .tuple l'.toArray, ?_, ?_⟩
  · cases l with
    | nil =>
      have : l' = [] := by have := hL.1; cases l' with | nil => rfl | cons _ _ => simp at this
      subst this
      exact VR.ofTuple LR.nil
    | cons x l =>
      obtain ⟨y, l2, rfl, hxy, hrest⟩ := hL.uncons
      cases l with
      | nil =>
        have : l2 = [] := by have := hrest.1; cases l2 with | nil => rfl | cons _ _ => simp at this
        subst this
        exact hxy
      | cons x2 l =>
        obtain ⟨y2, l3, rfl, hxy2, hrest2⟩ := hrest.uncons
        rw [dif_neg (by simp)]
        exact VR.ofTuple hL
  · unfold results
    rw [Array.mapM_eq_mapM_toList]
    simp only [Sem.run_bind, Sem.run_map, Sem.run_pure]
    exact congrArg (fun r : Result (List Value) => (r.andThen fun a w' => Result.ok a.toArray w').andThen fun (a : Array Value) w' => Result.ok (if h : a.size = 1 then a[0] else Value.tuple a) w') hm
theorem evBody_ok {X : FuncId → List Value → Option Value} {call : CallF} {dr : DrawF} (hX : ExtOK P X) (hC : CallOK P call) (hD : DrawOK P dr) {f : FuncId} {args : List Value} {h : Hp} {fn : Func} {s : St} (hh : evBody P X call dr f args h = some (fn, s)) :
    P.funcs[f]? = some fn ∧ ∃ c, fn.body = some c ∧ ∀ φ args' w, HR φ h.get h.n w → LR φ args args' → ∀ Q : Exit → Act → World → Prop, (∀ φ' a' w', Step φ h.get h.n w φ' s.h.get s.h.n w' → AR φ' s a' → Q .normal a' w' ∧ Q .ret a' w') →
      c.wp P Q { tmps := (⟨args'⟩ : Array Value) ++ Array.replicate (fn.ntmps - (⟨args'⟩ : Array Value).size) undef, defers := [] } w := by
  unfold evBody at hh
  split at hh
  · rename_i fn1 hf
    split at hh
    · rename_i c hb hc
      simp only [Bool.and_eq_true] at hc
      have c1 := Nat.le_of_ble_eq_true hc.1
      have c2 := Nat.le_of_ble_eq_true hc.2
      split at hh
      · cases hh
      · cases hh
      · rename_i ex s1 hnex hev
        cases hh
        refine ⟨hf, c, hb, fun φ args' w hr ha Q hQ => ?_⟩
        have hcode := evC_ok hX hC hD c
        have hAR := init_AR (h := h) ha c1 c2
        refine hcode _ ex s hev φ _ w hr hAR _ fun φ' a' w' hs ha' => ?_
        cases ex with
        | normal => exact (hQ φ' a' w' hs ha').1
        | ret => exact (hQ φ' a' w' hs ha').2
        | exit i => exact (hnex i rfl).elim
    · cases hh
  · cases hh
theorem resS_run {φ : Ren} {s : St} {a : Act} {w : World} (hr : HR φ s.h.get s.h.n w) (ha : AR φ s a) {fn : Func} {v : Value} {h' : Hp} (h : resS P fn s = some (v, h')) :
    h' = s.h ∧ ∃ v', VR φ v v' ∧ (results fn a.tmps).run P w = .ok v' w := by
  obtain ⟨l, hl, h⟩ := ob_some (show ob (mapO (resV P s) fn.results.toList) (fun l => some (oneV l, s.h)) = some (v, h') from h)
  cases h
  exact ⟨rfl, results_run hr ha hl⟩
theorem evRec_ok {X : FuncId → List Value → Option Value} {call : CallF} {dr : DrawF} (hX : ExtOK P X) (hC : CallOK P call) (hD : DrawOK P dr) {c : Code} {s s' : St} {ex : Ex} (hh : evRec P X call dr c s = some (ex, s')) {φ : Ren} {a : Act} {w : World} (hr : HR φ s.h.get s.h.n w) (ha : AR φ s a) {Q : Exit → Act → List Frame → World → Prop} {c0 : Frame} {cs : List Frame} (hc0 : c0.mode = .returning)
    (hQ : Leads s s' φ w fun a' w' => Q ex.to a' (c0 :: cs) w') : c.wpS P Q a (c0 :: cs) w := by
  unfold evRec at hh
  split at hh
  · rename_i id ops y
    split at hh
    · rename_i o ho
      split at hh
      · rename_i hrec hg
        obtain ⟨s1, h1, hh⟩ := ob_some hh
        have hops : ops = #[o] := by apply Array.ext'; simpa using ho
        subst hops
        obtain ⟨p1, p2⟩ := put_run ha (VR.nilIface) h1
        refine wpS_seq (wpS_region ?_)
        have hrun : (execOp a.eval o).run P w = .ok .recover w := by
          obtain ⟨dst, op, ty, pos, after, guard⟩ := o
          unfold isRec at hrec
          simp only at hrec
          split at hrec
          · rename_i cl
            split at hrec
            · rename_i hcl
              simp [execOp, resolve, hcl, invoke, builtin]
            · cases hrec
          · cases hrec
        have hw : Region.wanted o (yielded #[o] a.tmps) = true := by unfold Region.wanted; simp [hg]
        show wpOpsS P #[o] _ [0] a (c0 :: cs) w
        simp only [wpOpsS]
        rw [show (#[o] : Array Oper)[0]? = some o from rfl]
        simp only [hw, if_true, hrun]
        have hrd : recoverD (c0 :: cs) = none := by simp [recoverD, hc0]
        rw [hrd]
        have hcode := evC_ok hX hC hD y
        refine wpS_of_wp (hcode s1 ex s' hh φ _ w (by rw [p2]; exact hr) p1 _ fun φ' a' w' hs ha' => ?_)
        rw [p2] at hs
        exact hQ φ' a' w' hs ha'
      · cases hh
    · cases hh
  · cases hh
theorem DL.nil_eq {φ : Ren} {ds : List Deferred} (h : DL φ [] ds) : ds = [] := by cases h; rfl
theorem evDefer_ok {X : FuncId → List Value → Option Value} {call : CallF} {dr : DrawF} (hX : ExtOK P X) (hC : CallOK P call) (hD : DrawOK P dr) {f : FuncId} {args : List Value} {h h' : Hp} (hh : evDefer P X call dr f args h = some h') {φ : Ren} {args' : List Value} {w : World} (hr : HR φ h.get h.n w) (ha : LR φ args args') :
    (∀ w2, (callFunc f ⟨args'⟩).run P w2 = .ok (.enter f ⟨args'⟩) w2) ∧ CallsD P f ⟨args'⟩ .returning w fun e u' w' => u' = .returning ∧ (∃ v, e = .returned v) ∧ ∃ φ', Step φ h.get h.n w φ' h'.get h'.n w' := by
  unfold evDefer at hh
  split at hh
  · rename_i fn hf
    split at hh
    · rename_i c hb hc
      simp only [Bool.and_eq_true, Bool.not_eq_true'] at hc
      have c1 := Nat.le_of_ble_eq_true hc.1.1
      have c2 := Nat.le_of_ble_eq_true hc.1.2
      have hAR := init_AR (h := h) ha c1 c2
      split at hh
      · cases hh
      · cases hh
      · rename_i ex s hnex hev
        split at hh
        · rename_i hD0
          obtain ⟨x, h2, hh⟩ := ob_some hh
          cases hh
          obtain ⟨v, hx⟩ := x
          refine ⟨fun w2 => ?_, ?_⟩
          · have hne : ¬ fn.name = "runtime.NumGoroutine" := by simpa using hc.2
            unfold callFunc
            simp [hf, hne, hb]
          · have fin : ∀ φ' (a' : Act) w', Step φ h.get h.n w φ' s.h.get s.h.n w' → AR φ' s a' → a'.defers = [] ∧ ∃ v', (results fn a'.tmps).run P w' = .ok v' w' ∧ Step φ h.get h.n w φ' hx.get hx.n w' := fun φ' a' w' hs ha' => by
              obtain ⟨rfl, v', q1, q2⟩ := resS_run (P := P) hs.hr ha' h2
              have hd := ha'.d
              rw [hD0] at hd
              exact ⟨hd.nil_eq, v', q2, hs⟩
            split at hev
            · rename_i r hev1
              cases hev
              refine callsD_of_wp hf hb ?_
              refine evC_ok hX hC hD c _ ex s hev1 φ _ w hr hAR _ fun φ' a' w' hs ha' => ?_
              obtain ⟨k1, v', k2, k3⟩ := fin φ' a' w' hs ha'
              cases ex with
              | normal => exact ⟨k1, v', k2, ⟨v', rfl⟩, φ', k3⟩
              | ret => exact ⟨k1, v', k2, ⟨v', rfl⟩, φ', k3⟩
              | exit i => exact (hnex i rfl).elim
            · rename_i hev1
              refine callsD_of_wpS hf hb fun c0 cs hc0 => ?_
              refine evRec_ok hX hC hD hev hr hAR hc0 fun φ' a' w' hs ha' => ?_
              obtain ⟨k1, v', k2, k3⟩ := fin φ' a' w' hs ha'
              have hcs : c0 :: cs = { c0 with mode := .returning } :: cs := by rw [← hc0]
              cases ex with
              | normal => exact ⟨k1, .returning, hcs, v', k2, rfl, ⟨v', rfl⟩, φ', k3⟩
              | ret => exact ⟨k1, .returning, hcs, v', k2, rfl, ⟨v', rfl⟩, φ', k3⟩
              | exit i => exact (hnex i rfl).elim
        · cases hh
    · cases hh
  · cases hh
/-- a frame on its way out, marks of ranges over functions and calls that are put off -/
def LeavesM (P : Program) (fn : Func) (tmps : Array Value) (R : Ending → World → Prop) : List Deferred → World → Prop
  | [], w => ∃ v, (results fn tmps).run P w = .ok v w ∧ R (.returned v) w
  | d :: ds, w => (∃ r w', d.target = .collected r ∧ (Instr.takeDeferred r).run P w = .ok [] w' ∧ LeavesM P fn tmps R ds w') ∨
      (∃ fv cap f args, d.target = .fn fv cap ∧ (invoke d.target d.args).run P w = .ok (.enter f args) w ∧ CallsD P f args .returning w fun e u' w' => u' = .returning ∧ (∃ v, e = .returned v) ∧ LeavesM P fn tmps R ds w')
theorem leaves_stepsM {fn : Func} {tmps : Array Value} {R : Ending → World → Prop} : ∀ (ds : List Deferred) (w : World) (fr : Frame)
    (cs : List Frame), fr.mode = .returning → fr.defers = ds → fr.tmps = tmps → P.funcs[fr.fn]? = some fn → fr.kind = .normal → LeavesM P fn tmps R ds w →
    ∃ e w' fr', R e w' ∧ Comes P (lone fr cs w) (lone fr' cs w') e ∧ fr'.fn = fr.fn ∧ fr'.leaving P w' e := by
  intro ds
  induction ds with
  | nil =>
    intro w fr cs hu hd ht hf hk h
    obtain ⟨v, hr, hR⟩ := h
    exact ⟨.returned v, w, fr, hR, Steps.refl P _, rfl, hu, hd, hk, fn, hf, ht ▸ hr⟩
  | cons d ds ih =>
    intro w fr cs hu hd ht hf hk h
    rcases h with ⟨r, w', htar, htake, hrest⟩ | ⟨fv, cap, f, args, htar, hinv, hcall⟩
    · have h1 := step_collected (cs := cs) (by rw [hu]; simp) hd htar htake
      obtain ⟨e', w'', fr', hR', hs', hfn', hl'⟩ := ih w' { fr with defers := [] ++ ds } cs hu rfl ht hf hk hrest
      exact ⟨e', w'', fr', hR', Comes.of_steps (.one h1) hs', hfn', hl'⟩
    · have h1 := step_defer (cs := cs) (by rw [hu]; simp) hd htar hinv
      obtain ⟨e, u', w', frX, ⟨rfl, ⟨v, rfl⟩, hR⟩, hsteps, hkX, hgo⟩ := hcall { fr with defers := ds } cs hu
      have h2 := step_going_returned (c := { { fr with defers := ds } with mode := .returning }) (cs := cs) hkX hgo
      obtain ⟨e', w'', fr', hR', hs', hfn', hl'⟩ := ih w' { { { fr with defers := ds } with mode := .returning } with mode := settle .returning } cs rfl rfl ht hf hk hR
      exact ⟨e', w'', fr', hR', Comes.of_steps (.head h1 (Steps.trans hsteps (.one h2))) hs', hfn', hl'⟩
theorem calls_of_wp_marks {f : FuncId} {fn : Func} {c : Code} {args : Array Value} {w : World} {R : Ending → World → Prop}
    (hf : P.funcs[f]? = some fn) (hb : fn.body = some c)
    (h : c.wp P (fun e a w => (e = .normal ∨ e = .ret) ∧ LeavesM P fn a.tmps R a.defers w) { tmps := args ++ Array.replicate (fn.ntmps - args.size) undef, defers := [] } w) : Calls P f args w R := by
  intro cs
  let b : Frame := { (default : Frame) with fn := f, kind := .normal }
  have henter : Frame.enter P f args .normal =
      b.at { tmps := args ++ Array.replicate (fn.ntmps - args.size) undef, defers := [] } [.code c] := by
    simp [Frame.enter, Frame.at, hf, hb, b]
  obtain ⟨e, a', w', ⟨he, hq⟩, harr⟩ := h b [] cs
  rw [← henter] at harr
  rcases he with rfl | rfl
  · obtain ⟨e', w'', fr', hR, hs, hfn, hl⟩ := leaves_stepsM a'.defers w' { b.at a' [] with mode := .returning } cs rfl rfl rfl hf rfl hq
    exact ⟨e', w'', fr', hR, Comes.of_steps (Steps.trans harr (.one step_end)) hs, hfn, hl⟩
  · obtain ⟨todo, hs₀⟩ := harr
    obtain ⟨e', w'', fr', hR, hs, hfn, hl⟩ := leaves_stepsM a'.defers w' { b.at a' todo with mode := .returning } cs rfl rfl rfl hf rfl hq
    exact ⟨e', w'', fr', hR, Comes.of_steps hs₀ hs, hfn, hl⟩
theorem evDefers_ok {X : FuncId → List Value → Option Value} {call : CallF} {dr : DrawF} (hX : ExtOK P X) (hC : CallOK P call) (hD : DrawOK P dr) {fn : Func} {tmps : Array Value} {R : Ending → World → Prop} : ∀ (l : List DI) (h h' : Hp), evDefers P X call dr l h = some h' → ∀ (φ : Ren) (ds : List Deferred) (w : World), HR φ h.get h.n w → DL φ l ds →
    (∀ φ' w', Step φ h.get h.n w φ' h'.get h'.n w' → ∃ v, (results fn tmps).run P w' = .ok v w' ∧ R (.returned v) w') → LeavesM P fn tmps R ds w := by
  intro l
  induction l with
  | nil =>
    intro h h' hh φ ds w hr hds hR
    cases hh
    cases hds
    exact hR φ w (Step.refl hr)
  | cons x l ih =>
    intro h h' hh φ ds w hr hds hR
    obtain ⟨h1, e1, e2⟩ := ob_some (show ob (evDI P X call dr x h) (evDefers P X call dr l) = some h' from hh)
    cases hds with
    | @cons f args dargs cap _ ds hargs hrest =>
      obtain ⟨k1, k2⟩ := evDefer_ok hX hC hD (show evDefer P X call dr f args h = some h1 from e1) hr hargs
      refine .inr ⟨.func f, cap, f, dargs ++ cap, rfl, k1 w, ?_⟩
      refine CallsD.mono k2 ?_
      rintro e u' w' ⟨rfl, ⟨v, rfl⟩, φ', hs⟩
      exact ⟨rfl, ⟨v, rfl⟩, ih h1 h' e2 φ' ds w' hs.hr (hrest.mono hs.ext) fun φ'' w'' hs' => hR φ'' w'' (hs.trans hs')⟩
    | @mark i b _ ds hib hrest =>
      replace e1 : (match h.get i with
        | some (.obj (.deferred (some []))) => some (h.put i (.obj (.deferred none)))
        | _ => none) = some h1 := e1
      split at e1
      · rename_i hi
        cases e1
        have hrow := hr.row i b hib
        rw [hi] at hrow
        obtain ⟨o', ho', hor⟩ := hrow
        have hlt := hr.lt i b hib
        have hbd := hr.bnd
        have ho2 : w.heap[b]? = some (.deferred (some [])) := by
          cases o' with
          | deferred d =>
            cases d with
            | some ds =>
              cases ds with
              | nil => exact ho'
              | cons _ _ => exact hor.elim
            | none => exact hor.elim
          | _ => exact hor.elim
        refine .inl ⟨b, _, rfl, run_takeDeferred ho2, ?_⟩
        have s1 : Step φ h.get h.n w φ (h.put i (.obj (.deferred none))).get (h.put i (.obj (.deferred none))).n (w.putObj b (.deferred none)) := by
          refine Step.write (i := i) (b := b) (B := .obj (.deferred none)) hr hib (by rw [hi]; trivial) (by simp [World.putObj]) (fun c' hc' => World.putObj_heap_other hc') ⟨.deferred none, World.putObj_heap_same hlt.2, trivial⟩ trivial ?_ fun j hne => ?_
          · rw [Hp.get_put h _ (by omega), if_pos rfl]
          · rw [Hp.get_put h _ (by omega), if_neg hne]
        exact ih _ h' e2 φ ds _ s1.hr hrest fun φ'' w'' hs' => hR φ'' w'' (s1.trans hs')
      · cases e1
theorem evCall_ok {X : FuncId → List Value → Option Value} {Sm : CallF} {D : CallF → DrawF} (hX : ExtOK P X) (hS : CallOK P Sm) (hD : ∀ call, CallOK P call → DrawOK P (D call)) : ∀ d, CallOK P (evCall P X Sm D d) := by
  intro d
  induction d with
  | zero => intro f args h v h' hh; cases hh
  | succ d ih =>
    intro f args h v h' hh φ args' w hr ha
    replace hh : (match Sm f args h with
      | some r => some r
      | none => ob (evBody P X (evCall P X Sm D d) (D (evCall P X Sm D d)) f args h) fun r => ob (evDefers P X (evCall P X Sm D d) (D (evCall P X Sm D d)) r.2.D r.2.h) fun h => resS P r.1 ⟨r.2.T, r.2.k, h, r.2.D⟩) = some (v, h') := hh
    split at hh
    · rename_i r hs
      cases hh
      exact hS f args h v h' hs φ args' w hr ha
    · obtain ⟨r, h1, hh⟩ := ob_some hh
      obtain ⟨h2, e2, hh⟩ := ob_some hh
      obtain ⟨fn, s⟩ := r
      obtain ⟨hf, c, hb, hw⟩ := evBody_ok hX ih (hD _ ih) h1
      have key : ∀ φ' (a' : Act) w', Step φ h.get h.n w φ' s.h.get s.h.n w' → AR φ' s a' → LeavesM P fn a'.tmps (fun e w' => ∃ φ' v', e = .returned v' ∧ VR φ' v v' ∧ Step φ h.get h.n w φ' h'.get h'.n w') a'.defers w' := fun φ' a' w' hs ha' => by
        refine evDefers_ok hX ih (hD _ ih) s.D s.h h2 e2 φ' a'.defers w' hs.hr ha'.d fun φ'' w'' hs' => ?_
        obtain ⟨rfl, v', q1, q2⟩ := resS_run (P := P) (s := ⟨s.T, s.k, h2, s.D⟩) hs'.hr ((ha'.mono hs'.ext).heap h2) hh
        exact ⟨v', q2, φ'', v', rfl, q1, hs.trans hs'⟩
      exact calls_of_wp_marks hf hb (hw φ args' w hr ha _ fun φ' a' w' hs ha' => ⟨⟨.inl rfl, key φ' a' w' hs ha'⟩, ⟨.inr rfl, key φ' a' w' hs ha'⟩⟩)
end
end Go.Proofs.YtjkifbkehochoaaGreatDoor.Ev
namespace Go.Proofs.YtjkifbkehochoaaGreatDoor.Ev
open Go.RowKit
noncomputable def isT (o : Option (Value × Hp)) : Bool := match o with
  | some (.bool true, _) => true
  | _ => false
/-- a closed call that answers true -/
noncomputable def tells (P : Program) (X : FuncId → List Value → Option Value) (Sm : CallF) (d : Nat) (f : FuncId) : Bool := isT (evCall P X Sm (evD P X) d f [] (Hp.nil 0))
def Ren.nil : Ren := ⟨fun _ => none, fun _ => 0⟩
theorem HR.nil (w : World) : HR Ren.nil (Hp.nil 0).get (Hp.nil 0).n w where
  bnd := Nat.zero_le _
  ro := fun i cs h => by rw [Hp.nil_get] at h; cases h
  lt := fun i b h => by cases (show (none : Option Nat) = some b from h)
  inj := fun i j b h => by cases (show (none : Option Nat) = some b from h)
  row := fun i b h => by cases (show (none : Option Nat) = some b from h)
end Go.Proofs.YtjkifbkehochoaaGreatDoor.Ev

set_option linter.unusedSimpArgs false
set_option linter.unusedVariables false
namespace Go.Proofs.YtjkifbkehochoaaGreatDoor.Ev
open Go.RowKit
theorem plainAll_self {φ : Ren} {a : List Value} (hp : plainAll a = true) : LR φ a a := by
  refine ⟨rfl, fun i x y hx hy => ?_⟩
  rw [hx] at hy
  cases hy
  exact VR.self 20 x (List.all_eq_true.1 hp x (List.mem_of_getElem? hx))
theorem plainF_self {φ : Ren} {v : Value} (h : plainF v = true) : VR φ v v := VR.self 20 v (by rw [← plainF_eq]; exact h)
theorem plainF_same {φ : Ren} {v v' : Value} (h : plainF v = true) (hv : VR φ v v') : v = v' := VR.same 20 v v' (by rw [← plainF_eq]; exact h) hv
/-- a call of plain values that gives a plain value and touches nothing that was there -/
structure PlainOK (P : Program) (f : FuncId) (args : List Value) (v : Value) : Prop where
  pargs : plainAll args = true
  pval : plainF v = true
  calls : ∀ w, Calls P f ⟨args⟩ w fun e w' => e = .returned v ∧ Below w.heap.size w w'
theorem belowStep {φ : Ren} {C : Nat → Option Blk} {n : Nat} {w w' : World} (hr : HR φ C n w) (h : Below w.heap.size w w') : Step φ C n w φ C n w' := by
  refine ⟨⟨hr.bnd, hr.ro, fun i b hi => ⟨(hr.lt i b hi).1, by have := (hr.lt i b hi).2; have := h.size; omega⟩, hr.inj, fun i b hi => ?_⟩, φ.le_refl, fun _ _ _ h => h, Nat.le_refl _, fun _ _ h => h, fun _ _ h => h, fun i b hi hb => absurd (hr.lt i b hb).1 (by omega), h.size, fun b hb _ => h.block b hb, ⟨h.os, h.tape, h.output⟩⟩
  rw [h.block b (hr.lt i b hi).2]
  exact hr.row i b hi
theorem PlainOK.call {P : Program} {f : FuncId} {args : List Value} {v : Value} (h : PlainOK P f args v) {φ : Ren} {C : Nat → Option Blk} {n : Nat} {args' : List Value} {w : World} (hr : HR φ C n w) (ha : LR φ args args') :
    Calls P f ⟨args'⟩ w fun e w' => ∃ φ' v', e = .returned v' ∧ VR φ' v v' ∧ Step φ C n w φ' C n w' := by
  have e := LR.same h.pargs ha
  subst e
  refine (h.calls w).mono ?_
  rintro e w' ⟨rfl, hb⟩
  exact ⟨φ, v, rfl, plainF_self h.pval, belowStep hr hb⟩
/-- a table of such calls -/
noncomputable def SmT (l : List (FuncId × List Value × Value)) : CallF := fun f args h =>
  List.rec (motive := fun _ => Option (Value × Hp)) none (fun e _ ih => match Nat.beq e.1 f with
    | false => ih
    | true => match listB (veq 64) e.2.1 args with
      | true => some (e.2.2, h)
      | false => ih) l
theorem SmT_ok {P : Program} {l : List (FuncId × List Value × Value)} (hl : ∀ e ∈ l, PlainOK P e.1 e.2.1 e.2.2) : CallOK P (SmT l) := by
  intro f args h v h' hh φ args' w hr ha
  induction l with
  | nil => cases hh
  | cons e l ih =>
    replace hh : (match Nat.beq e.1 f with
      | false => SmT l f args h
      | true => match listB (veq 64) e.2.1 args with
        | true => some (e.2.2, h)
        | false => SmT l f args h) = some (v, h') := hh
    have ih := ih (fun e he => hl e (List.mem_cons_of_mem _ he))
    split at hh
    · exact ih hh
    · rename_i hf
      split at hh
      · rename_i ha'
        cases hh
        have h1 := Nat.eq_of_beq_eq_true hf
        have h2 := listB_spec (fun a b h => veq_spec h) ha'
        subst h1
        subst h2
        exact (hl e (List.mem_cons_self ..)).call hr ha
      · exact ih hh
def OKs (P : Program) (l : List (FuncId × List Value × Value)) : Prop := ∀ e ∈ l, PlainOK P e.1 e.2.1 e.2.2
theorem OKs.nil {P : Program} : OKs P [] := fun _ h => nomatch h
theorem OKs.cons {P : Program} {e : FuncId × List Value × Value} {l : List (FuncId × List Value × Value)} (h : PlainOK P e.1 e.2.1 e.2.2) (k : OKs P l) : OKs P (e :: l) := fun x hx => by
  rcases List.mem_cons.1 hx with rfl | hx
  · exact h
  · exact k x hx
theorem OKs.ok {P : Program} {l : List (FuncId × List Value × Value)} (h : OKs P l) : CallOK P (SmT l) := SmT_ok h
noncomputable def isV (o : Option (Value × Hp)) (v : Value) : Bool := match o with
  | some (a, _) => veq 64 a v
  | none => false
noncomputable def gives (P : Program) (X : FuncId → List Value → Option Value) (Sm : CallF) (d : Nat) (f : FuncId) (args : List Value) (v : Value) : Bool :=
  match plainAll args && plainF v with
  | true => isV (evCall P X Sm (evD P X) d f args (Hp.nil 0)) v
  | false => false
theorem gives_ok {P : Program} {X : FuncId → List Value → Option Value} {Sm : CallF} (hX : ExtOK P X) (hS : CallOK P Sm) (hm : P.follows .mixedOrders = true) {d : Nat} {f : FuncId} {args : List Value} {v : Value} (h : gives P X Sm d f args v = true) : PlainOK P f args v := by
  unfold gives at h
  split at h
  · rename_i hp
    obtain ⟨p1, p2⟩ := Bool.and_eq_true_iff.1 hp
    refine ⟨p1, p2, fun w => ?_⟩
    unfold isV at h
    split at h
    · rename_i a h' he
      have := veq_spec h
      subst this
      refine (evCall_ok hX hS (fun call hC => evD_ok hX hC hm) d f args (Hp.nil 0) _ h' he Ren.nil args w (HR.nil w) (plainAll_self p1)).mono ?_
      rintro e w' ⟨φ', v', rfl, hv, hs⟩
      have := plainF_same p2 hv
      subst this
      exact ⟨rfl, hs.same.os, hs.same.tape, hs.same.output, hs.size, fun k hk => hs.frame k hk fun i hi => by cases (show (none : Option Nat) = some k from hi)⟩
    · cases h
  · cases h
end Go.Proofs.YtjkifbkehochoaaGreatDoor.Ev
namespace Go.Proofs.YtjkifbkehochoaaGreatDoor.Ev
/-- a function that the model itself answers -/
def IsExt (P : Program) (f : FuncId) (e : Array Value → Sem Value) : Prop :=
  ∃ fn, P.funcs[f]? = some fn ∧ (fn.name == "runtime.NumGoroutine") = false ∧ fn.body.isNone = true ∧ Extern.findNext fn = none ∧ Extern.find fn = some e
noncomputable def XT (P : Program) (l : List (FuncId × (Array Value → Sem Value))) (f : FuncId) (args : List Value) : Option Value :=
  List.rec (motive := fun _ => Option Value) none (fun r _ ih => match Nat.beq r.1 f with
    | false => ih
    | true => match plainAll args with
      | true => pureV P (r.2 ⟨args⟩)
      | false => none) l
theorem ext_run {P : Program} {f : FuncId} {e : Array Value → Sem Value} (h : IsExt P f e) {args : Array Value} {v : Value} {w : World} (hv : ∀ w, (e args).run P w = .ok v w) : (callFunc f args).run P w = .ok (.value v) w := by
  obtain ⟨fn, h1, h2, h3, h4, h5⟩ := h
  have hp : ∀ w, (program : Sem Program).run P w = .ok P w := fun w => rfl
  have hm : ∀ m w, (mark m).run P w = .ok () w := fun m w => rfl
  unfold callFunc
  simp only [Sem.run_bind, hp, Result.andThen_ok, h1]
  rw [if_neg (by rw [h2]; exact Bool.false_ne_true), if_pos h3]
  simp only [Sem.run_bind, hm, Result.andThen_ok, h4, h5, hv, Sem.run_pure]
theorem XT_ok {P : Program} {l : List (FuncId × (Array Value → Sem Value))} (hl : ∀ r ∈ l, IsExt P r.1 r.2) : ExtOK P (XT P l) := by
  intro f args v hh φ args' ha
  induction l with
  | nil => cases hh
  | cons r l ih =>
    replace hh : (match Nat.beq r.1 f with
      | false => XT P l f args
      | true => match plainAll args with
        | true => pureV P (r.2 ⟨args⟩)
        | false => none) = some v := hh
    split at hh
    · exact ih (fun e he => hl e (List.mem_cons_of_mem _ he)) hh
    · rename_i hf
      split at hh
      · rename_i hp
        have h1 := Nat.eq_of_beq_eq_true hf
        subst h1
        have h2 := LR.same hp ha
        subst h2
        obtain ⟨a, b⟩ := pureV_run (φ := φ) hh
        exact ⟨v, a, fun w => ext_run (hl r (List.mem_cons_self ..)) b⟩
      · cases hh
end Go.Proofs.YtjkifbkehochoaaGreatDoor.Ev
namespace Go.Proofs.YtjkifbkehochoaaGreatDoor.Ev
open Go.RowKit
/-- globals whose cells are known -/
def Laid (w : World) (G : List (Nat × List Value)) : Prop := ∀ p ∈ G, ∃ c e f, w.heap[p.1]? = some (.cells c e f) ∧ ∀ (i : Nat) (x : Value), p.2[i]? = some x → c[i]? = some x
noncomputable def hpG (n : Nat) (G : List (Nat × List Value)) : Hp := List.rec (motive := fun _ => Hp) (Hp.nil n) (fun p _ ih => ih.put p.1 (.ro p.2)) G
noncomputable def okG (n : Nat) (G : List (Nat × List Value)) : Bool := Nat.ble n 65536 && allB (fun p => Nat.ble (Nat.add p.1 1) n) G
theorem hpG_n (n : Nat) : ∀ G, (hpG n G).n = n
  | [] => rfl
  | p :: G => hpG_n n G
theorem hpG_get {n : Nat} (hn : n ≤ 65536) : ∀ {G : List (Nat × List Value)}, (∀ p ∈ G, p.1 < n) → ∀ i B, (hpG n G).get i = some B → ∃ p ∈ G, p.1 = i ∧ B = .ro p.2
  | [], _, i, B, h => by rw [show (hpG n []).get i = (Hp.nil n).get i from rfl, Hp.nil_get] at h; cases h
  | p :: G, hG, i, B, h => by
    replace h : ((hpG n G).put p.1 (.ro p.2)).get i = some B := h
    rw [Hp.get_put _ _ (by have := hG p (List.mem_cons_self ..); omega)] at h
    split at h
    · rename_i e
      cases h
      exact ⟨p, List.mem_cons_self .., e.symm, rfl⟩
    · obtain ⟨q, h1, h2⟩ := hpG_get hn (fun q hq => hG q (List.mem_cons_of_mem _ hq)) i B h
      exact ⟨q, List.mem_cons_of_mem _ h1, h2⟩
open Classical in
noncomputable def renG (h : Hp) : Ren := ⟨fun i => if h.get i = none then none else some i, fun _ => 0⟩
theorem HR.laid {n : Nat} {G : List (Nat × List Value)} (hk : okG n G = true) {w : World} (hl : Laid w G) : HR (renG (hpG n G)) (hpG n G).get (hpG n G).n w := by
  obtain ⟨k1, k2⟩ := Bool.and_eq_true_iff.1 hk
  have k1 := Nat.le_of_ble_eq_true k1
  have hG : ∀ p ∈ G, p.1 < n := fun p hp => Nat.le_of_ble_eq_true (allB_spec k2 p hp)
  have some_of : ∀ i b, (renG (hpG n G)) i = some b → b = i ∧ ∃ p ∈ G, p.1 = i ∧ (hpG n G).get i = some (.ro p.2) := fun i b h => by
    replace h : (if (hpG n G).get i = none then none else some i) = some b := h
    split at h
    · cases h
    · rename_i hne
      cases h
      cases hg : (hpG n G).get i with
      | none => exact absurd hg hne
      | some B =>
        obtain ⟨p, h1, h2, h3⟩ := hpG_get k1 hG i B hg
        exact ⟨rfl, p, h1, h2, by rw [h3]⟩
  rw [hpG_n]
  refine ⟨k1, fun i cs h => ?_, fun i b h => ?_, fun i j b hi hj _ _ => ?_, fun i b h => ?_⟩
  · obtain ⟨p, h1, h2, -⟩ := hpG_get k1 hG i _ h
    exact ⟨by rw [← h2]; exact hG p h1, by show (if (hpG n G).get i = none then none else some i) = some i; rw [if_neg (by rw [h]; simp)]⟩
  · obtain ⟨rfl, p, h1, h2, -⟩ := some_of i b h
    obtain ⟨c, e, f, h3, -⟩ := hl p h1
    rw [h2] at h3
    exact ⟨by rw [← h2]; exact hG p h1, (Array.getElem?_eq_some_iff.1 h3).1⟩
  · obtain ⟨rfl, -⟩ := some_of i b hi
    exact (some_of j _ hj).1
  · obtain ⟨rfl, p, h1, h2, h3⟩ := some_of i b h
    rw [h3]
    obtain ⟨c, e, f, h4, h5⟩ := hl p h1
    rw [h2] at h4
    refine ⟨c, e, f, h4, h5⟩
/-- a call of plain values, where globals are laid -/
noncomputable def givesG (P : Program) (X : FuncId → List Value → Option Value) (Sm : CallF) (n : Nat) (G : List (Nat × List Value)) (d : Nat) (f : FuncId) (args : List Value) (v : Value) : Bool :=
  match plainAll args && plainF v && okG n G with
  | true => isV (evCall P X Sm (evD P X) d f args (hpG n G)) v
  | false => false
theorem givesG_ok {P : Program} {X : FuncId → List Value → Option Value} {Sm : CallF} (hX : ExtOK P X) (hS : CallOK P Sm) (hm : P.follows .mixedOrders = true) {n : Nat} {G : List (Nat × List Value)} {d : Nat} {f : FuncId} {args : List Value} {v : Value} (h : givesG P X Sm n G d f args v = true) {w : World} (hl : Laid w G) :
    Calls P f ⟨args⟩ w fun e w' => e = .returned v ∧ Below w.heap.size w w' := by
  unfold givesG at h
  split at h
  · rename_i hp
    obtain ⟨hp, p3⟩ := Bool.and_eq_true_iff.1 hp
    obtain ⟨p1, p2⟩ := Bool.and_eq_true_iff.1 hp
    unfold isV at h
    split at h
    · rename_i a h' he
      have := veq_spec h
      subst this
      have hr := HR.laid p3 hl
      refine (evCall_ok hX hS (fun call hC => evD_ok hX hC hm) d f args (hpG n G) _ h' he _ args w hr (plainAll_self p1)).mono ?_
      rintro e w' ⟨φ', v', rfl, hv, hs⟩
      have := plainF_same p2 hv
      subst this
      refine ⟨rfl, hs.same.os, hs.same.tape, hs.same.output, hs.size, fun k hk => hs.frame k hk fun i hi hlv => ?_⟩
      cases hg : (hpG n G).get i with
      | none => rw [hg] at hlv; exact hlv
      | some B =>
        obtain ⟨k1, k2⟩ := Bool.and_eq_true_iff.1 p3
        obtain ⟨p, -, -, h3⟩ := hpG_get (Nat.le_of_ble_eq_true k1) (fun p hp => Nat.le_of_ble_eq_true (allB_spec k2 p hp)) i B hg
        rw [hg, h3] at hlv
        exact hlv
    · cases h
  · cases h
end Go.Proofs.YtjkifbkehochoaaGreatDoor.Ev
namespace Go.Proofs.YtjkifbkehochoaaGreatDoor.Ev
open Go.RowKit
noncomputable def hasG (h : Hp) (G : List (Nat × List Value)) : Bool := allB (fun p => match h.get p.1 with
  | some (.ro cs) => listB (veq 64) p.2 cs
  | _ => false) G
theorem hasG_laid {φ : Ren} {h : Hp} {n : Nat} {w : World} (hr : HR φ h.get n w) {G : List (Nat × List Value)} (hg : hasG h G = true) : Laid w G := by
  intro p hp
  have := allB_spec hg p hp
  split at this
  · rename_i cs hc
    have e := listB_spec (fun a b h => veq_spec h) this
    subst e
    have hrow := hr.row _ _ (hr.ro _ _ hc).2
    rw [hc] at hrow
    obtain ⟨c, e, f, h1, h2⟩ := hrow
    exact ⟨c, e, f, h1, h2⟩
  · cases this
/-- a call of plain values, where the globals G are laid -/
structure PlainG (P : Program) (G : List (Nat × List Value)) (f : FuncId) (args : List Value) (v : Value) : Prop where
  pargs : plainAll args = true
  pval : plainF v = true
  calls : ∀ w, Laid w G → Calls P f ⟨args⟩ w fun e w' => e = .returned v ∧ Below w.heap.size w w'
theorem givesG_plain {P : Program} {X : FuncId → List Value → Option Value} {Sm : CallF} (hX : ExtOK P X) (hS : CallOK P Sm) (hm : P.follows .mixedOrders = true) {n : Nat} {G : List (Nat × List Value)} {d : Nat} {f : FuncId} {args : List Value} {v : Value} (h : givesG P X Sm n G d f args v = true) : PlainG P G f args v := by
  have h0 := h
  unfold givesG at h
  split at h
  · rename_i hp
    obtain ⟨hp, p3⟩ := Bool.and_eq_true_iff.1 hp
    obtain ⟨p1, p2⟩ := Bool.and_eq_true_iff.1 hp
    exact ⟨p1, p2, fun w hl => givesG_ok hX hS hm h0 hl⟩
  · cases h
theorem PlainG.plain {P : Program} {f : FuncId} {args : List Value} {v : Value} (h : PlainG P [] f args v) : PlainOK P f args v := ⟨h.pargs, h.pval, fun w => h.calls w fun _ hp => nomatch hp⟩
/-- a table of such calls -/
noncomputable def SmG (l : List (List (Nat × List Value) × FuncId × List Value × Value)) : CallF := fun f args h =>
  List.rec (motive := fun _ => Option (Value × Hp)) none (fun e _ ih => match Nat.beq e.2.1 f with
    | false => ih
    | true => match listB (veq 64) e.2.2.1 args with
      | true => match hasG h e.1 with
        | true => some (e.2.2.2, h)
        | false => ih
      | false => ih) l
def OKG (P : Program) (l : List (List (Nat × List Value) × FuncId × List Value × Value)) : Prop := ∀ e ∈ l, PlainG P e.1 e.2.1 e.2.2.1 e.2.2.2
theorem OKG.nil {P : Program} : OKG P [] := fun _ h => nomatch h
theorem OKG.cons {P : Program} {e : List (Nat × List Value) × FuncId × List Value × Value} {l : List (List (Nat × List Value) × FuncId × List Value × Value)} (h : PlainG P e.1 e.2.1 e.2.2.1 e.2.2.2) (k : OKG P l) : OKG P (e :: l) := fun x hx => by
  rcases List.mem_cons.1 hx with rfl | hx
  · exact h
  · exact k x hx
theorem OKG.ok {P : Program} {l : List (List (Nat × List Value) × FuncId × List Value × Value)} (hl : OKG P l) : CallOK P (SmG l) := by
  intro f args h v h' hh φ args' w hr ha
  induction l with
  | nil => cases hh
  | cons e l ih =>
    replace hh : (match Nat.beq e.2.1 f with
      | false => SmG l f args h
      | true => match listB (veq 64) e.2.2.1 args with
        | true => match hasG h e.1 with
          | true => some (e.2.2.2, h)
          | false => SmG l f args h
        | false => SmG l f args h) = some (v, h') := hh
    have ih := ih (fun e he => hl e (List.mem_cons_of_mem _ he))
    split at hh
    · exact ih hh
    · rename_i hf
      split at hh
      · rename_i ha'
        split at hh
        · rename_i hg
          cases hh
          have h1 := Nat.eq_of_beq_eq_true hf
          have h2 := listB_spec (fun a b h => veq_spec h) ha'
          subst h1
          subst h2
          have hp := hl e (List.mem_cons_self ..)
          have e' := LR.same hp.pargs ha
          subst e'
          refine (hp.calls w (hasG_laid hr hg)).mono ?_
          rintro r w' ⟨rfl, hb⟩
          exact ⟨φ, _, rfl, plainF_self hp.pval, belowStep hr hb⟩
        · exact ih hh
      · exact ih hh
end Go.Proofs.YtjkifbkehochoaaGreatDoor.Ev
namespace Go.Proofs.YtjkifbkehochoaaGreatDoor.Ev
open Go.RowKit
noncomputable def SmOr (a b : CallF) : CallF := fun f args h => match a f args h with
  | some r => some r
  | none => b f args h
theorem CallOK.or {P : Program} {a b : CallF} (ha : CallOK P a) (hb : CallOK P b) : CallOK P (SmOr a b) := by
  intro f args h v h' hh
  unfold SmOr at hh
  split at hh
  · rename_i r hr
    cases hh
    exact ha f args h v h' hr
  · exact hb f args h v h' hh
end Go.Proofs.YtjkifbkehochoaaGreatDoor.Ev
