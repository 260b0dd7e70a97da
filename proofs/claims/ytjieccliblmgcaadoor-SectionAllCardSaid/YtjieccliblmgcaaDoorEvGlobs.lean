/- The known package-level variables. -/
import Derived.Test.YtjieccliblmgcaaDoorEvDefs
namespace Go.Proofs.YtjieccliblmgcaaDoor.Ev
open Go
def glob0 : List AV := [.int .i64 2, .int .i64 5]
end Go.Proofs.YtjieccliblmgcaaDoor.Ev
