/- What galleylaw15.MarksNames computes is true. No condition: it reads nothing. -/
import Derived.Test.YtfdecgfkdohdjaaPMarksNamesx1
namespace Go.Proofs.Ytfdecgfkdohdjaa.Pure
open Go.RowKit Go.Proofs.Ytfdecgfkdohdjaa.PMarksNames Go.Proofs.YtfdecgfkdohdjaaW.PrintWords Go.Proofs.YtfdecgfkdohdjaaW.PrintLast

/-- YOURS: galleylaw15_MarksNames.f  = some true
What it reaches (each with k first where it has rounds; `.mono`: more rounds tell the same; `.l0`, ..: its loops, with `.mono_l`): galleylaw15_MarksNames.f -/
theorem MarksNames : galleylaw15_MarksNames.Pure := by
  unfold galleylaw15_MarksNames.Pure; rfl

end Go.Proofs.Ytfdecgfkdohdjaa.Pure
