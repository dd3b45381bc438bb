/- An append leaves the row that it appends to as it was: its own places hold what they held. -/
import Derived.Test.YtknclghaofmnhaaVMore
namespace Go
section
variable {P : Program} (w : World)
end
end Go
namespace Go.Proofs.YtknclghaofmnhaaV.PrintWords
open Go.RowKit
namespace Kd
section
variable {P : Program} {ops : Array Oper} {rest : List Oper} {o : Oper} {a : Act} {Q : Exit → Act → World → Prop} {α : Type}
end
end Kd
end Go.Proofs.YtknclghaofmnhaaV.PrintWords

