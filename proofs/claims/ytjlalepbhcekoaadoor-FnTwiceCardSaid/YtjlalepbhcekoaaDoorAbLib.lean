/- The library's functions that are met by their contracts. -/
import Derived.Test.YtjlalepbhcekoaaDoorAbPrim
import Derived.Test.YtjlalepbhcekoaaDoorShelf
import Derived.Shelf.Abstract
set_option linter.unusedVariables false
namespace Go.Proofs.YtjlalepbhcekoaaDoor
open Go Go.Ab Go.Shelf Go.RowKit
def libT : List (Nat × Nat) := [(121, 0), (90, 1), (86, 146), (87, 3), (116, 4)]
theorem tab_of_fx {B : Nat} {w : World} (h : FxOk B w) : Lib.TabIs Tryd.prog w "internal/strconv.uint64pow10" .u64 Lib.pow10Tab := by
  obtain ⟨_, t, z, hz⟩ := h.1 _ (List.mem_singleton.2 rfl)
  unfold Lib.TabIs World.var?
  rw [show Tryd.prog.globalNamed "internal/strconv.uint64pow10" = some 1 by kernel_rfl, Option.bind_some]
  simp only [hz]
theorem libT_ok : ∀ p ∈ libT, LibOk Tryd.prog p.1 p.2 ∧ ∀ args w, (callFunc p.1 args).run Tryd.prog w = .ok (.enter p.1 args) w := by
  intro p hp
  simp only [libT, List.mem_cons, List.not_mem_nil, or_false] at hp
  rcases hp with rfl | rfl | rfl | rfl | rfl
  · exact ⟨libOk_fmt (fun B w h => tab_of_fx h) Tryd.strconv_FormatInt_10, enters_of Tryd.func121 (by kernel_rfl) rfl⟩
  · exact ⟨libOk_join Tryd.strings_Join_none Tryd.strings_Join, enters_of Tryd.func90 (by kernel_rfl) rfl⟩
  · exact ⟨libOk_split (g := 0) (t := 9) ⟨rfl, rfl⟩ (by simp [FXI]) (by kernel_rfl) Tryd.strings_Split, enters_of Tryd.func86 (by kernel_rfl) rfl⟩
  · exact ⟨libOk_cut (g := 0) rfl (by simp [FXI]) Tryd.strings_Cut, enters_of Tryd.func87 (by kernel_rfl) rfl⟩
  · exact ⟨libOk_idx rfl Tryd.strings_IndexByte, enters_of Tryd.func116 (by kernel_rfl) rfl⟩
end Go.Proofs.YtjlalepbhcekoaaDoor
