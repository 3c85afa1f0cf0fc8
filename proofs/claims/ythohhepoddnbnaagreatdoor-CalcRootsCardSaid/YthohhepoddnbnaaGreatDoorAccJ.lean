
/- An Acc: Join. -/
import Derived.Test.YthohhepoddnbnaaGreatDoorAccI
namespace Go.Proofs.YthohhepoddnbnaaGreatDoor
open Go.RowKit Fl

def joinS (s t : AS) : AS := ⟨s.z + t.z, s.nan || t.nan, s.pos || t.pos, s.neg || t.neg, s.any || t.any⟩
end Go.Proofs.YthohhepoddnbnaaGreatDoor
