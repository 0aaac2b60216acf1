/- The blocks of memory that stay as they are through the whole run: tables of the library's. -/
import Derived.WalkKit
import Derived.Lib.ItoaNum
namespace Go.Ab
open Go
def FX : List (Nat × Array Value) := [(0, (Lib.pow10Tab.map fun z => Value.int .u64 z).toArray)]
end Go.Ab
