/- The walk of SumsTell and what opens a slice of floats. -/
import Derived.Test.YtelalledjbeenaaMgUO
import Derived.Test.YtelalledjbeenaaOpenF

