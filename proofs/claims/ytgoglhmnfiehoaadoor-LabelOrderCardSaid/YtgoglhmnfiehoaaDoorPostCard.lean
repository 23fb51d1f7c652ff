/- Own work: a listed variable's datum as cells; for a card's witness. -/
import Derived.Test.YtgoglhmnfiehoaaDoorPost
namespace Go.Proofs.YtgoglhmnfiehoaaDoor
mutual
def dataCells : DataW Unit → List Value
  | .lit l => [l.value]
  | .agg parts => dataCellsAll parts
  | _ => []
def dataCellsAll : List (DataW Unit) → List Value
  | [] => []
  | d :: r => dataCells d ++ dataCellsAll r
 end
end Go.Proofs.YtgoglhmnfiehoaaDoor
