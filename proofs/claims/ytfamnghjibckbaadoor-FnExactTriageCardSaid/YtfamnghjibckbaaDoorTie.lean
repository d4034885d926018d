/-
  DERIVED. GIVEN WITH THE SEED: THE PROGRAM's TIES (one call each: nine closed facts by the kernel) AND EACH ROW's TIE, after the 31st guide's Derived/Test/Toyas{Tie, Card}.lean. No idea stands in it: it is a product of the set-up. Laid BY PROGRAM, IN A SANDBOX (cutbox-door.mjs). By AI agents, Wed Nov 11 2026. No macro, syntax, notation, axiom, sorry.
-/
import Derived.Test.YtfamnghjibckbaaDoorRows
import Derived.LaidByTextLater
import Derived.SevenTiedAt
import Derived.LaidSub
import Derived.LaidOnce
namespace Go.Proofs.YtfamnghjibckbaaDoor
open Go
set_option maxRecDepth 100000
theorem seatTie1 : Tryd.prog.laidByTextLater [("loop.example/s01858/impl.forms", Rows.laid_loop_example_s01858_impl_forms), ("loop.example/s01858/impl.shaK", Rows.laid_loop_example_s01858_impl_shaK)] [.mapped, .data] true :=
  Program.laidByTextLater_by_one 89 8 65 (by kernel_rfl) (by kernel_rfl) (by kernel_rfl) (by kernel_rfl) (by kernel_rfl) (by kernel_rfl) (fun _ _ => by kernel_rfl)
theorem noOwnUnsafe : Tryd.pinned.checked.prog.headLifts.contains "ownunsafe" = false := by kernel_rfl
theorem tie : Tryd.prog.laidByTextLater [("loop.example/s01858/impl.forms", Rows.laid_loop_example_s01858_impl_forms)] [.mapped] true :=
  Program.laidByTextLater.sub seatTie1 ["loop.example/s01858/impl.forms"] (by kernel_rfl) (by kernel_rfl)
theorem fnEdns_row_tie : Rows.fnEdnsRow.laidByTextAt .later Tryd.pinned [.mapped] true :=
  OpenClaim.laidByTextAt_later rfl rfl tie noOwnUnsafe
theorem fnExactTruncate_row_tie : Rows.fnExactTruncateRow.laidByTextAt .later Tryd.pinned [.mapped] true :=
  OpenClaim.laidByTextAt_later rfl rfl tie noOwnUnsafe
theorem tie2 : Tryd.prog.laidByTextLater [("loop.example/s01858/impl.forms", Rows.laid_loop_example_s01858_impl_forms), ("loop.example/s01858/impl.shaK", Rows.laid_loop_example_s01858_impl_shaK)] [.mapped, .data] true :=
  Program.laidByTextLater.sub seatTie1 ["loop.example/s01858/impl.forms", "loop.example/s01858/impl.shaK"] (by kernel_rfl) (by kernel_rfl)
theorem fnExactTriage_row_tie : Rows.fnExactTriageRow.laidByTextAt .later Tryd.pinned [.mapped, .data] true :=
  OpenClaim.laidByTextAt_later rfl rfl tie2 noOwnUnsafe
theorem fnEdnsUpto_row_tie : Rows.fnEdnsUptoRow.laidByTextAt .later Tryd.pinned [.mapped] true :=
  OpenClaim.laidByTextAt_later rfl rfl tie noOwnUnsafe
theorem fnExactTruncateUpto_row_tie : Rows.fnExactTruncateUptoRow.laidByTextAt .later Tryd.pinned [.mapped] true :=
  OpenClaim.laidByTextAt_later rfl rfl tie noOwnUnsafe
theorem fnExactTriageUpto_row_tie : Rows.fnExactTriageUptoRow.laidByTextAt .later Tryd.pinned [.mapped, .data] true :=
  OpenClaim.laidByTextAt_later rfl rfl tie2 noOwnUnsafe
end Go.Proofs.YtfamnghjibckbaaDoor
