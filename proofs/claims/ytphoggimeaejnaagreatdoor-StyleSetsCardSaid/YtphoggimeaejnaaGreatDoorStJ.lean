/- The walk of StyleTells, with the listed variables laid. -/
import Derived.Test.YtphoggimeaejnaaGreatDoorStI
import Derived.Test.YtphoggimeaejnaaGreatDoorStH
import Derived.Test.YtphoggimeaejnaaGreatDoorAwA
namespace Go.Proofs.YtphoggimeaejnaaGreatDoor
open Go.RowKit Fl

theorem walkTells (W : World) (hA : ∀ w', Below W.heap.size W w' → Calls Tryz.prog 6 #[] w' fun e w'' => e = .returned (.bool true) ∧ Below w'.heap.size w' w'') (g : Nat → Int) (f : Nat → Nat) (hf : ∀ i, U (f i)) (s : ByteArray) (x : Nat) (hx : U x) :
    Calls Tryz.prog 3 #[.agg (lkC g f).toArray, .string s, .float .f64 x] W fun e w' => e = .returned (.bool true) ∧ Below W.heap.size W w' := by
  have h7 := fun w => c7 s g f w
  have h8 := fun w => c8 s g f w
  have uv : U (tell (K s) g f).1 := by
    unfold tell
    split
    · exact hf 1
    · exact hf 2
    · exact hf 31
    · exact hf 32
    · exact hf 53
    · split
      · exact hf 3
      · exact U_0
    · split
      · exact hf 5
      · exact U_0
    · exact U_0
  have h9 : ∀ w, Calls Tryz.prog 9 #[.float .f64 (tell (K s) g f).1, .float .f64 (tell (K s) g f).1] w fun e w' => e = .returned (.bool true) ∧ w = w' := fun w => k9 ⟨uv, uv, rfl⟩ w
  have h10 : ∀ w, Calls Tryz.prog 10 #[.agg (lkC g f).toArray, .string s, .float .f64 x] w fun e w' => (∃ f', e = .returned (.tuple #[.agg (lkC (putG (K s) g) f').toArray, if K s < 7 then .int .i64 0 else .int .i64 1]) ∧ (∀ i, pl (f' i) = putP (K s) x f i) ∧ ∀ i, U (f' i)) ∧ Below w.heap.size w w' := fun w => c10 s g f x w hf hx
  have h11 : ∀ w, Calls Tryz.prog 11 #[.agg (lkC g f).toArray, .string s, .float .f64 x] w fun e w' => (∃ f', e = .returned (.tuple #[.agg (lkC (putG (K s) g) f').toArray, if K s < 7 then .bool true else .bool false]) ∧ (∀ i, pl (f' i) = putP (K s) x f i) ∧ ∀ i, U (f' i)) ∧ Below w.heap.size w w' := fun w => c11 s g f x w hf hx
  have I := ri_new g f W
  clear uv hf hx
  generalize tell (K s) g f = t at *
  generalize putG (K s) g = G at *
  generalize hp : putP (K s) x f = p at *
  clear hp
  generalize K s = k at *
  obtain ⟨v, b⟩ := t
  by_cases hk : k < 7
  · simp only [hk, if_true] at h10 h11
    cases b
    · exact wTft W g f s x v G p (Lib.hid I) (Lib.hid hA) (Lib.hid h7) (Lib.hid h8) (Lib.hid h9) (Lib.hid h10) (Lib.hid h11)
    · exact wTtt W g f s x v G p (Lib.hid I) (Lib.hid hA) (Lib.hid h7) (Lib.hid h8) (Lib.hid h9) (Lib.hid h10) (Lib.hid h11)
  · simp only [hk, if_false] at h10 h11
    cases b
    · exact wTff W g f s x v G p (Lib.hid I) (Lib.hid hA) (Lib.hid h7) (Lib.hid h8) (Lib.hid h9) (Lib.hid h10) (Lib.hid h11)
    · exact wTtf W g f s x v G p (Lib.hid I) (Lib.hid hA) (Lib.hid h7) (Lib.hid h8) (Lib.hid h9) (Lib.hid h10) (Lib.hid h11)
theorem cell_stays {W w' : World} {v : Value} (h : W.cell? ⟨1, 0, none⟩ = some v) (hb : Below W.heap.size W w') : w'.cell? ⟨1, 0, none⟩ = some v := by
  have h1 : 1 < W.heap.size := by
    unfold World.cell? at h
    cases hb : W.heap[1]? with
    | none => simp [hb] at h
    | some o => exact (Array.getElem?_eq_some_iff.1 hb).1
  exact (hb.cell (p := ⟨1, 0, none⟩) h1).trans h
theorem awake_all {W : World} (h : W.cell? ⟨1, 0, none⟩ = some hvError) : ∀ w', Below W.heap.size W w' → Calls Tryz.prog 6 #[] w' fun e w'' => e = .returned (.bool true) ∧ Below w'.heap.size w' w'' := fun w' hb => awake_ok (cell_stays h hb)
theorem uwf {x : Nat} (h : (Lit.float .f64 x).wf = true) : U x := by
  unfold U; simpa [Lit.wf] using h
theorem walkTells2 (W : World) (hL : laidMetH Tryz.prog Rows.styleTellsRow.laid W) (g : Nat → Int) (f : Nat → Nat) (hf : ∀ i, U (f i)) (s : ByteArray) (_ : s.size ≤ maxLen) (x : Nat) (hx : (Lit.float .f64 x).wf = true) :
    Calls Tryz.prog 3 #[.agg (lkC g f).toArray, .string s, .float .f64 x] W fun e w' => e = .returned (.bool true) ∧ Below W.heap.size W w' :=
  walkTells W (awake_all (handle_of_laid rfl hL)) g f hf s x (uwf hx)
def lookD {H : Type} : DataW H := .agg ([.lit (.int .i64 0)] ++ List.replicate 2 (.lit (.float .f64 0)) ++ List.replicate 6 (.agg [.lit (.float .f64 0), .lit (.int .i64 0)]) ++ List.replicate 2 (.agg (List.replicate 4 (.agg [.lit (.float .f64 0), .lit (.int .i64 0)]))) ++ List.replicate 2 (.lit (.float .f64 0)) ++ List.replicate 2 (.agg [.lit (.float .f64 0), .lit (.int .i64 0)]) ++ [.agg (List.replicate 16 (.lit (.float .f64 0))), .lit (.float .f64 0)])
set_option maxRecDepth 100000 in
theorem open_look2 {H : Type} {enc : TypeId × Value → H} {w : World} {r : Reach} {B : Nat} {v : Value} {d : DataW H} {p : List MemPlace} (h : Value.okWide Tryz.prog w r B 31 v) (_ : DataW.Trod enc Tryz.prog w 0 (fun _ => true) true 31 v d p) : ∃ (g : Nat → Int) (f : Nat → Nat), v = .agg (lkC g f).toArray ∧ ∀ i, U (f i) := open_look h
end Go.Proofs.YtphoggimeaejnaaGreatDoor
