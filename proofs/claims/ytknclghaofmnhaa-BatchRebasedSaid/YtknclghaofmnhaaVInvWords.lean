import Derived.Test.YtknclghaofmnhaaVInv
import Derived.Test.YtknclghaofmnhaaVFootNe
namespace Go.Proofs.YtknclghaofmnhaaV.PrintWords
open Go.RowKit
end Go.Proofs.YtknclghaofmnhaaV.PrintWords
namespace Go.Proofs.YtknclghaofmnhaaV.PrintLast
section
variable {ops : Array Oper} {a : Act} {o og : Oper} {g : Nat} {t : Tmp} {u : Bool}
end
end Go.Proofs.YtknclghaofmnhaaV.PrintLast

