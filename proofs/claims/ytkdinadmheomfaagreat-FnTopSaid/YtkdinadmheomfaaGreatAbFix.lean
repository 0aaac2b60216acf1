/- The blocks of memory that stay as they are through the whole run: tables of the library's. -/
import Derived.WalkKit
namespace Go.Ab
open Go
def FX:List (Nat×Array Value):=[]
def OP:List Nat:=[]
end Go.Ab
