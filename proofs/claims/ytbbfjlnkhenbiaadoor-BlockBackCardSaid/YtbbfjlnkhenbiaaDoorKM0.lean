/- A region of reads and quiet calls, in whatever class of worlds. -/
import Derived.Test.YtbbfjlnkhenbiaaDoorKB2
import Derived.Test.YtbbfjlnkhenbiaaDoorKB5
import Derived.Deep.QuietTactic
import Derived.BigQuiet
set_option linter.unusedVariables false
set_option linter.unusedSimpArgs false
namespace Lk
open Go Go.RowKit
/-- worlds that are as V was below block M -/
def BSub (M : Nat) (V : World) : Type := {x : World // Below M V x}
instance BSub.some (M : Nat) (V : World) : Nonempty (BSub M V) := ⟨⟨V, Below.refl M V⟩⟩
def BSub.is {M : Nat} {V : World} (x : BSub M V) : World := x.val
def BCls (M : Nat) (V : World) (w' : World) : Prop := ∃ x : BSub M V, w' = x.is
theorem bcls_of {M : Nat} {V w' : World} (h : Below M V w') : ∃ x : BSub M V, w' = x.is := ⟨⟨w', h⟩, rfl⟩
theorem of_bcls {M : Nat} {V w' : World} (h : ∃ x : BSub M V, w' = x.is) : Below M V w' := by
  obtain ⟨x, rfl⟩ := h
  exact x.property
/-- a region of reads and quiet calls, walked once, in whatever class of worlds -/
theorem wp_region_cls {P : Program} {id : Nat} {Q : Exit → Act → World → Prop} {a : Act} {w : World} {l : List Oper} (C : World → Prop) (hm : P.follows .mixedOrders = true) (hB : Region.lexB .any l.toArray = true) (hC : C w.drew)
    (h : wpQuiet P l.toArray C (fun a' => ∀ w', C w' → Q .normal a' w') l a) : (Code.region id l.toArray true).wp P Q a w :=
  wp_region_quiet (C := C) hm hB hC (by simpa using h)
end Lk
