/- api.Code and api.At of an error. -/
import Derived.Test.YtbbfjlnkhenbiaaDoorKB6
import Derived.OneCell
set_option linter.unusedVariables false
set_option linter.unusedSimpArgs false
namespace Go.Proofs.YtbbfjlnkhenbiaaDoor
open Go.RowKit Go.Extern.Stop Go.Stop Go.Extern Lk
theorem cell_new {w w4 : World} {v : Value} {T : TypeId} (hL : Below (w.alloc (.cells #[v] T)).heap.size (w.alloc (.cells #[v] T)) w4) (u : Value) : (w4.setCell ⟨w.heap.size, 0, none⟩ u).cell? ⟨w.heap.size, 0, none⟩ = some u := by
  have c4 := hL.block w.heap.size (by simp)
  have c5 : (w.alloc (.cells #[v] T)).heap[w.heap.size]? = some (.cells #[v] T (0, 0)) := heap_alloc_new w _
  rw [c5] at c4
  exact cell_of_one (one_setCell c4)
theorem below_set {w w1 w4 : World} (hb : Below w.heap.size w w1) (hL : Below w1.heap.size w1 w4) (u : Value) : Below w.heap.size w (w4.setCell ⟨w.heap.size, 0, none⟩ u) :=
  (below_mr hb hL hb.size).setCell (Nat.le_refl _) _
theorem Code_nil (w : World) : Calls Tryd.prog 13 #[.nilIface] w fun e w' => e = .returned (.int .i64 0) ∧ Below w.heap.size w w' := by
  go_enter Tryd.func13, Tryd.ntmps13
  go_wp2
  go_ret
  exact ⟨rfl, (Below.refl _ _).alloc (Nat.le_refl _) _⟩
set_option maxHeartbeats 1000000 in
theorem Code_any (ats : List Int) (k : Int) (v : Value) (w : World) (hE : Et w) (hv : ErV w ats k v) :
    Calls Tryd.prog 13 #[v] w fun e w' => e = .returned (.int .i64 k) ∧ Below w.heap.size w w' := by
  obtain ⟨T, x, ex⟩ := hv.form
  subst ex
  have hb := (Below.refl w.heap.size w).alloc (Nat.le_refl _) (.cells #[.int .i64 0] 68)
  have ca := As_E ats k _ ⟨w.heap.size, 0, none⟩ (.int .i64 0) (w.alloc (.cells #[.int .i64 0] 68)) (hE.below hb) (hv.below hb) (by rw [World.cell?_alloc_at _ _ _ _ rfl]; rfl) (by simp)
  have CA := Lib.hid ca
  have HB := Lib.hid hb
  clear ca hb hE hv
  go_enter Tryd.func13, Tryd.ntmps13
  go_wp2_with (go_at_call 32; refine CA.out.mono ?_; rintro e w3 ⟨rfl, w4, hL4, rfl⟩; have c5 := cell_new hL4 (.int .i64 k))
  go_ret
  exact ⟨rfl, below_set HB.out hL4 _⟩
end Go.Proofs.YtbbfjlnkhenbiaaDoor
