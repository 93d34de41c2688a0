/-
  A world for the witnesses: the settled one, the listed variables laid as their initialisers lay them.
  Conditions: none.
-/
import Derived.Test.YtnpfnjkghlgooaaGreatDoorArOpen
namespace Go.Proofs.YtnpfnjkghlgooaaGreatDoor
set_option linter.unusedVariables false
set_option linter.unusedSimpArgs false
open Go Go.RowKit

def lit1 : DataW Unit → List Value
  | .lit (.int k n) => [.int k n]
  | _ => []
def flat1 : DataW Unit → List Value
  | .agg l => l.flatMap lit1
  | d => lit1 d
def flat2 : DataW Unit → List Value
  | .agg l => l.flatMap flat1
  | d => lit1 d
abbrev synS : ByteArray := { data := #[105, 110, 118, 97, 108, 105, 100, 32, 115, 121, 110, 116, 97, 120] }
abbrev rngS : ByteArray := { data := #[118, 97, 108, 117, 101, 32, 111, 117, 116, 32, 111, 102, 32, 114, 97, 110, 103, 101] }
noncomputable def low : Nat := (World.holding Tryz.prog default ⟨#[], #[], []⟩).heap.size
def lay (cs : List Value) : Obj → Obj
  | .cells _ t frozen => .cells cs.toArray t frozen
  | o => o
noncomputable def laidWorld (os : Os) : World :=
  let w0 := World.holding Tryz.prog os ⟨#[.cells #[.string synS] 166, .cells #[.string rngS] 166], #[], []⟩
  { w0 with heap := ((((((w0.heap.modify 1 (lay (flat1 Rows.laid_internal_strconv_uint64pow10))).modify 2 (lay [.iface 164 (.pointer (some ⟨low, 0, none⟩))])).modify 3 (lay [.iface 164 (.pointer (some ⟨low + 1, 0, none⟩))])).modify 4 (lay (flat1 Rows.laid_math_bits_deBruijn32tab))).modify 5 (lay (flat1 Rows.laid_math_bits_deBruijn64tab))).modify 6 (lay (flat1 Rows.laid_unicode_utf8_first))).modify 7 (lay (flat2 Rows.laid_unicode_utf8_acceptRanges)) }

theorem laid_met (os : Os) (args : Array Value) : laidMet Tryz.prog Rows.arWritesRow.laid ((laidWorld os).forCall (fun _ _ => 0) ⟨#[], args, []⟩).memory :=
  laidMet_of_run' 8 (by kernel_rfl) (by kernel_rfl)

end Go.Proofs.YtnpfnjkghlgooaaGreatDoor
