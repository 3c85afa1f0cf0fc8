/- The look Plain, by the evaluator; the names of what may be put. -/
import Derived.Test.YtphoggimeaejnaaGreatDoorStG
import Derived.Test.YtphoggimeaejnaaGreatDoorStJ
namespace Go.Proofs.YtphoggimeaejnaaGreatDoor
open Go.RowKit Fl

def gPl (i : Nat) : Int := match i with
  | 0 => 1
  | 4 => 3
  | 6 => 3
  | 8 => 1
  | 10 => 1
  | 12 => 3
  | 14 => 3
  | 16 => 1
  | 18 => 1
  | 20 => 1
  | 22 => 1
  | 24 => 1
  | 26 => 1
  | 28 => 1
  | 30 => 1
  | 34 => 3
  | 36 => 1
  | _ => 0
def fPl (i : Nat) : Nat := match i with
  | 1 => 4625196817309499392
  | 2 => 4607182418800017408
  | 32 => 4607182418800017408
  | 37 => 4607182418800017408
  | 42 => 4607182418800017408
  | 47 => 4607182418800017408
  | 52 => 4607182418800017408
  | _ => 0
theorem U_fPl (i : Nat) : U (fPl i) := by unfold fPl; split <;> (unfold U; decide)
theorem plainLook : (Value.agg #[.int .i64 1, .float .f64 4625196817309499392, .float .f64 4607182418800017408, .float .f64 0, .int .i64 3, .float .f64 0, .int .i64 3, .float .f64 0, .int .i64 1, .float .f64 0, .int .i64 1, .float .f64 0, .int .i64 3, .float .f64 0, .int .i64 3, .float .f64 0, .int .i64 1, .float .f64 0, .int .i64 1, .float .f64 0, .int .i64 1, .float .f64 0, .int .i64 1, .float .f64 0, .int .i64 1, .float .f64 0, .int .i64 1, .float .f64 0, .int .i64 1, .float .f64 0, .int .i64 1, .float .f64 0, .float .f64 4607182418800017408, .float .f64 0, .int .i64 3, .float .f64 0, .int .i64 1, .float .f64 4607182418800017408, .float .f64 0, .float .f64 0, .float .f64 0, .float .f64 0, .float .f64 4607182418800017408, .float .f64 0, .float .f64 0, .float .f64 0, .float .f64 0, .float .f64 4607182418800017408, .float .f64 0, .float .f64 0, .float .f64 0, .float .f64 0, .float .f64 4607182418800017408, .float .f64 0]) = .agg (lkC gPl fPl).toArray := by kernel_rfl
set_option maxRecDepth 1000000 in
set_option maxHeartbeats 0 in
theorem plain13 : Ev.PlainOK Tryz.prog 13 [] (.agg #[.int .i64 1, .float .f64 4625196817309499392, .float .f64 4607182418800017408, .float .f64 0, .int .i64 3, .float .f64 0, .int .i64 3, .float .f64 0, .int .i64 1, .float .f64 0, .int .i64 1, .float .f64 0, .int .i64 3, .float .f64 0, .int .i64 3, .float .f64 0, .int .i64 1, .float .f64 0, .int .i64 1, .float .f64 0, .int .i64 1, .float .f64 0, .int .i64 1, .float .f64 0, .int .i64 1, .float .f64 0, .int .i64 1, .float .f64 0, .int .i64 1, .float .f64 0, .int .i64 1, .float .f64 0, .float .f64 4607182418800017408, .float .f64 0, .int .i64 3, .float .f64 0, .int .i64 1, .float .f64 4607182418800017408, .float .f64 0, .float .f64 0, .float .f64 0, .float .f64 0, .float .f64 4607182418800017408, .float .f64 0, .float .f64 0, .float .f64 0, .float .f64 0, .float .f64 4607182418800017408, .float .f64 0, .float .f64 0, .float .f64 0, .float .f64 0, .float .f64 4607182418800017408, .float .f64 0]) := Ev.gives_ok (Sm := Ev.SmT []) (d := 100) Ev.xok Ev.OKs.nil.ok Ev.mixed (by decide +kernel)
theorem c13 (w : World) : Calls Tryz.prog 13 #[] w fun e w' => e = .returned (.agg (lkC gPl fPl).toArray) ∧ Below w.heap.size w w' := by
  have h := plain13.calls w
  rw [plainLook] at h
  exact h
/-- the seven names -/
def nm (j : Nat) : ByteArray := match j with
  | 0 => ⟨#[115, 105, 122, 101]⟩
  | 1 => ⟨#[111, 112, 97, 99, 105, 116, 121]⟩
  | 2 => ⟨#[103, 114, 111, 119]⟩
  | 3 => ⟨#[115, 104, 114, 105, 110, 107]⟩
  | 4 => ⟨#[108, 101, 118, 101, 108]⟩
  | 5 => ⟨#[119, 105, 100, 116, 104]⟩
  | _ => ⟨#[104, 101, 105, 103, 104, 116]⟩
theorem PK.nm (j : Nat) (h : j < 7) : K (nm j) = j := by
  match j, h with
  | 0, _ => unfold K; rw [ByteArray.toList_eq]; decide
  | 1, _ => unfold K; rw [ByteArray.toList_eq]; decide
  | 2, _ => unfold K; rw [ByteArray.toList_eq]; decide
  | 3, _ => unfold K; rw [ByteArray.toList_eq]; decide
  | 4, _ => unfold K; rw [ByteArray.toList_eq]; decide
  | 5, _ => unfold K; rw [ByteArray.toList_eq]; decide
  | 6, _ => unfold K; rw [ByteArray.toList_eq]; decide
  | j + 7, h => exact absurd h (by omega)
end Go.Proofs.YtphoggimeaejnaaGreatDoor
