/- The blocks of memory that stay as they are through the whole run: tables of the library's, and a number of its own. -/
import Derived.WalkKit
import Derived.Lib.ItoaNum
namespace Go.Ab
open Go
def FX : List (Nat × Array Value) := [(1, (Lib.pow10Tab.map fun z => Value.int .u64 z).toArray)]
def FXI : List Nat := [0]
end Go.Ab
