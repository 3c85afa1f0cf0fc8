/- The walk of BitsStands. -/
import Derived.Test.YtelalledjbeenaaAlive
namespace Go.Proofs.Ytelalledjbeenaa
open Go.RowKit Fl
set_option maxRecDepth 100000 in
set_option maxHeartbeats 1000000 in
theorem walkBitsStands (x y z : Nat) (w : World) (hx : U x) (hy : U y) (hz : U z) :
    Calls Try.prog 18 #[.float .f64 x, .float .f64 y, .float .f64 z] w fun e w' => e = .returned (.bool true) ∧ Below w.heap.size w w' := by
  go_enter Try.func18, Try.ntmps18
  go_wp2_with (first
    | (go_at_call 29; refine (c29 _).mono ?_; rintro e w1 ⟨rfl, hb⟩)
    | (go_at_call 44; refine (c44 _ _ _ (by assumption) (by assumption)).mono ?_; rintro e w' ⟨rfl, rfl⟩)
    | (go_at_call 32; refine (c32 _ _ _ (by assumption) (by assumption)).mono ?_; rintro e w' ⟨rfl, rfl⟩)
    | (go_at_call 69; refine (c69 _ _ _ (by assumption) (by assumption)).mono ?_; rintro e w' ⟨rfl, rfl⟩)
    | (go_at_call 107; refine (c107 _ _ _ (by assumption) (by assumption)).mono ?_; rintro e w' ⟨rfl, rfl⟩)
    | (go_at_call 70; refine (c70 _ _ (by assumption)).mono ?_; rintro e w' ⟨⟨r, rfl, hr, he⟩, rfl⟩)
    | (go_at_call 108; refine (c108 _ _ (by assumption)).mono ?_; rintro e w' ⟨⟨r, rfl, hr, he⟩, rfl⟩)
    | (go_at_call 71; refine (c71 _ _ (by assumption)).mono ?_; rintro e w' ⟨⟨r, rfl, hr, he⟩, rfl⟩)
    | (go_at_call 109; refine (c109 _ _ (by assumption)).mono ?_; rintro e w' ⟨⟨r, rfl, hr, he⟩, rfl⟩)
    | (go_at_call 83; refine (c83 _ _ _ (by assumption) (by assumption)).mono ?_; rintro e w' ⟨⟨r, rfl, hr, he⟩, rfl⟩)
    | (go_at_call 110; refine (c110 _ _ _ (by assumption) (by assumption)).mono ?_; rintro e w' ⟨⟨r, rfl, hr, he⟩, rfl⟩)
    | (go_at_call 84; refine (c84 _ _ _ (by assumption) (by assumption)).mono ?_; rintro e w' ⟨⟨r, rfl, hr, he⟩, rfl⟩)
    | (go_at_call 111; refine (c111 _ _ _ (by assumption) (by assumption)).mono ?_; rintro e w' ⟨⟨r, rfl, hr, he⟩, rfl⟩)
    | (go_at_call 85; refine (c85 _ _ _ _ (by assumption) (by assumption) (by assumption)).mono ?_; rintro e w' ⟨⟨r, rfl, hr, he⟩, rfl⟩)
    | (go_at_call 112; refine (c112 _ _ _ _ (by assumption) (by assumption) (by assumption)).mono ?_; rintro e w' ⟨⟨r, rfl, hr, he⟩, rfl⟩))
  go_ret
  exact ⟨rfl, by assumption⟩
end Go.Proofs.Ytelalledjbeenaa
