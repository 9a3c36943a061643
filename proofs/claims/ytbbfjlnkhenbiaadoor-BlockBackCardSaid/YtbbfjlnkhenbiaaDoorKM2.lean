/- mode.Chained and mode.Alone of whichever kind, direction and number of blocks. -/
import Derived.Test.YtbbfjlnkhenbiaaDoorKM1
import Derived.Test.YtbbfjlnkhenbiaaDoorKB5
import Derived.Test.YtbbfjlnkhenbiaaDoorKB3
import Derived.Test.YtbbfjlnkhenbiaaDoorKB4
import Derived.Test.YtbbfjlnkhenbiaaDoorKB2
set_option linter.unusedVariables false
set_option linter.unusedSimpArgs false
namespace Go.Proofs.YtbbfjlnkhenbiaaDoor
open Go.RowKit Lk
end Go.Proofs.YtbbfjlnkhenbiaaDoor
set_option linter.unusedVariables false
set_option linter.unusedSimpArgs false
namespace Go.Proofs.YtbbfjlnkhenbiaaDoor
open Go.RowKit Lk
set_option maxHeartbeats 800000 in
set_option maxRecDepth 100000 in
theorem TapeNew (v : Value) (l : List UInt8) (w : World) (h : SlB w v l) (hl : l.length ≤ 65536) :
    Calls Tryd.prog 28 #[v] w fun e w' => ∃ g tv, e = .returned (.tuple #[.pointer (some ⟨g, 0, none⟩), .nilIface]) ∧ w.heap.size ≤ g ∧ One w' g 95 tv ∧ Own w' w.heap.size tv l ∧ Below w.heap.size w w' := by
  obtain ⟨L, hL⟩ : ∃ L, l.length = L := ⟨_, rfl⟩
  have HC := Lib.hid (clone_any v l w h (by omega))
  obtain ⟨A, c, rfl, _, b1, b2, _⟩ := h
  rw [hL] at b1 hl HC ⊢
  have EL := Lib.hid hL
  have d1 : decide ((65536 : Int) < (L : Int)) = false := by simp; omega
  clear hL
  go_enter Tryd.func28, Tryd.ntmps28
  go_wp2_with (go_at_call 31; refine HC.out.mono ?_; rintro e w1 ⟨v1, rfl, hO, hL1⟩; have HO := Lib.hid hO; have HL1 := Lib.hid hL1; obtain ⟨A1, c1, rfl, hc1⟩ := hO.slB.formc EL.out; clear hO hL1)
  go_ret2
  exact ⟨w1.heap.size, _, rfl, HL1.out.size, heap_alloc_new w1 _, HO.out.alloc _, below_alloc HL1.out HL1.out.size _⟩
theorem NewBook_any (p : Option Addr) (w : World) :
    Calls Tryd.prog 29 #[.pointer p] w fun e w' => e = .returned (.pointer (some ⟨w.heap.size, 0, none⟩)) ∧ w' = w.alloc (.cells #[.slice none 0 0, .pointer p] 85) := by
  go_enter Tryd.func29, Tryd.ntmps29
  go_wp2
  go_ret
  exact ⟨rfl, rfl⟩
theorem New_bk1 (v : Value) (bp : Option Addr) (key : List UInt8) (w : World) (hf : pfits 1 key.length = true) (h : SlB w v key) : Calls Tryd.prog 12 #[.int .i64 (1 : Int), v, .pointer bp] w (Newed w 1 key) := New_any v bp 1 key w (.inl rfl) hf h
theorem New_bk2 (v : Value) (bp : Option Addr) (key : List UInt8) (w : World) (hf : pfits 2 key.length = true) (h : SlB w v key) : Calls Tryd.prog 12 #[.int .i64 (2 : Int), v, .pointer bp] w (Newed w 2 key) := New_any v bp 2 key w (.inr rfl) hf h
end Go.Proofs.YtbbfjlnkhenbiaaDoor
set_option linter.unusedVariables false
set_option linter.unusedSimpArgs false
namespace Lk
open Go Go.RowKit
def kright (key : List UInt8) (n : Nat) : List UInt8 := (List.range n).map fun i => if key.length = 0 then 0 else g8 key (i % key.length)
theorem kright_len (key : List UInt8) (n : Nat) : (kright key n).length = n := by simp [kright]
theorem kright_succ (key : List UInt8) (n : Nat) : kright key (n + 1) = kright key n ++ [if key.length = 0 then 0 else g8 key (n % key.length)] := by simp [kright, List.range_succ]
theorem SlB.cell {w : World} {g o L c : Nat} {l : List UInt8} (h : SlB w (.slice (some ⟨g, o, none⟩) L c) l) (k : Nat) (hk : k < l.length) : w.cell? ⟨g, o + k, none⟩ = some (.int .u8 (bv (g8 l k))) := by
  obtain ⟨A', c', e, _, h2, _, h4⟩ := h
  cases e
  obtain ⟨g', o', e2, hr⟩ := h4 (by omega)
  cases e2
  exact hr k hk
end Lk
set_option linter.unusedVariables false
set_option linter.unusedSimpArgs false
namespace Go.Proofs.YtbbfjlnkhenbiaaDoor
open Go.RowKit Lk
end Go.Proofs.YtbbfjlnkhenbiaaDoor
