/- The walk of DigitsNears, as the card wants it. -/
import Derived.Test.YtjkifbkehochoaaGreatDoorOpenS
import Derived.Test.YtjkifbkehochoaaGreatDoorAwA
namespace Go.Proofs.YtjkifbkehochoaaGreatDoor
open Go.RowKit Fl
theorem bulk_small {H : Type} {d : DataW H} {l : List (DataW H)} {n c : Nat} (hd : d ∈ l) (hl : LenD d c) (hn : n ≤ c) (hk : Rows.uptoSmall H l = true) : n ≤ 1048576 := by
  have h1 := bulks.bound hk
  have h2 := bulks.part_le hd
  rcases hl with ⟨_, h⟩ | ⟨es, sp, rfl, h⟩
  · omega
  · have := bulks.slice_le es sp; omega
theorem walkNears (W : World) (hL : laidMetH Tryz.prog Rows.digitsNearsUptoRow.laid W) (A : Option Addr) (ss : List ByteArray) (c : Nat) (hA : VR W A (SV ss)) (lc : ss.length ≤ c) (z0 : c ≤ 1048576) (hs : ∀ s ∈ ss, s.size ≤ 1048576)
    (B : Option Addr) (zs : List Int) (d : Nat) (hB : VR W B (ZV zs)) (ld : zs.length ≤ d) (z1 : d ≤ 1048576) (hz : ∀ z ∈ zs, -9223372036854775808 ≤ z ∧ z ≤ 9223372036854775807) :
    Calls Tryz.prog 6 #[.slice A ss.length c, .slice B zs.length d] W fun e w' => e = .returned (.bool true) ∧ Below W.heap.size W w' :=
  walkNears0 W (awake_nears hL) A B ss zs c d hA hB lc ld (by omega) (by omega) (fun s hs' => Nat.le_trans (hs s hs') (by omega)) hz
end Go.Proofs.YtjkifbkehochoaaGreatDoor
