/- The library's functions that are met by their contracts. -/
import Derived.Test.YtonpeobfmgdamabDoorAbPrim
import Derived.Test.YtonpeobfmgdamabDoorShelf
import Derived.Shelf.Abstract
set_option linter.unusedVariables false
namespace Go.Proofs.YtonpeobfmgdamabDoor
open Go Go.Ab Go.Shelf Go.RowKit
def libT : List (Nat × Nat) := [(102, 0), (94, 1)]
theorem tab_of_fx {B : Nat} {w : World} (h : FxOk B w) : Lib.TabIs Tryd.prog w "internal/strconv.uint64pow10" .u64 Lib.pow10Tab := by
  obtain ⟨_, t, z, hz⟩ := h _ (List.mem_singleton.2 rfl)
  unfold Lib.TabIs World.var?
  rw [show Tryd.prog.globalNamed "internal/strconv.uint64pow10" = some 0 by kernel_rfl, Option.bind_some]
  simp only [hz]
theorem libT_ok : ∀ p ∈ libT, LibOk Tryd.prog p.1 p.2 ∧ ∀ args w, (callFunc p.1 args).run Tryd.prog w = .ok (.enter p.1 args) w := by
  intro p hp
  simp only [libT, List.mem_cons, List.not_mem_nil, or_false] at hp
  rcases hp with rfl | rfl
  · exact ⟨libOk_fmt (fun B w h => tab_of_fx h) Tryd.strconv_FormatInt_10, enters_of Tryd.func102 (by kernel_rfl) rfl⟩
  · exact ⟨libOk_join Tryd.strings_Join_none Tryd.strings_Join, enters_of Tryd.func94 (by kernel_rfl) rfl⟩
end Go.Proofs.YtonpeobfmgdamabDoor
