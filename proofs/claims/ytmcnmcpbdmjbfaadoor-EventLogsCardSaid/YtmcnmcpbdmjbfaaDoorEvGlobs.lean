/- The known package-level variables. -/
import Derived.Test.YtmcnmcpbdmjbfaaDoorEvLaid2
namespace Go.Proofs.YtmcnmcpbdmjbfaaDoor.Ev
open Go
/-- Which statuses a step leads to. -/
def nextRows : List (List Int) := [[1], [2], [1, 3, 4, 5, 6], [1], [1], [1], []]
def str (l : List UInt8) : AV := .str ⟨l.toArray⟩
/-- The statuses' names. -/
def glob1 : List AV := [str [110, 111, 110, 101], str [114, 117, 110, 110, 97, 98, 108, 101], str [114, 117, 110, 110, 105, 110, 103], str [98, 108, 111, 99, 107, 101, 100], str [115, 108, 101, 101, 112, 105, 110, 103], str [119, 97, 105, 116, 105, 110, 103], str [100, 101, 97, 100]]
/-- The kinds of events. -/
def glob2 : List AV := [str [115, 112, 97, 119, 110], .int .u64 0, .int .u64 1, str [114, 101, 97, 100, 121], .int .u64 0, .int .u64 1, str [100, 105, 115, 112, 97, 116, 99, 104], .int .u64 1, .int .u64 2, str [121, 105, 101, 108, 100], .int .u64 2, .int .u64 1, str [98, 108, 111, 99, 107], .int .u64 2, .int .u64 3, str [115, 108, 101, 101, 112], .int .u64 2, .int .u64 4, str [119, 97, 105, 116], .int .u64 2, .int .u64 5, str [101, 120, 105, 116], .int .u64 2, .int .u64 6]
def globN : AObj := .cells true (rowsG 3 nextRows) none
/-- The variables (those that are not listed are dead), the rows of the first one, the arguments. -/
abbrev heapA (x0 x1 x2 : AObj) (args : List AObj) : AHeap := ⟨x0 :: x1 :: x2 :: rowO .u64 [1] :: rowO .u64 [2] :: rowO .u64 [1, 3, 4, 5, 6] :: rowO .u64 [1] :: rowO .u64 [1] :: rowO .u64 [1] :: rowO .u64 [] :: args, []⟩
end Go.Proofs.YtmcnmcpbdmjbfaaDoor.Ev
