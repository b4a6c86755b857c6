/- The exported arithmetic of fractions on both sides: valid arguments, and arguments one of which is not valid. -/
import Derived.Test.YtoedphgoaifojaaFrac3
namespace Go.Proofs.Ytoedphgoaifojaa
open Go.RowKit






















end Go.Proofs.Ytoedphgoaifojaa
