/- One fraction as an argument of a law. -/
import Derived.Test.YthcomgnokkndgaaDoorLaw
import Derived.Test.YthcomgnokkndgaaDoorArg
import Derived.Test.YthcomgnokkndgaaDoorTail
namespace Go.Proofs.YthcomgnokkndgaaDoor
open Go.ChangeShapes Go.WideShapes Go.ChangeAt Go.RowKit Go.Joins



end Go.Proofs.YthcomgnokkndgaaDoor
