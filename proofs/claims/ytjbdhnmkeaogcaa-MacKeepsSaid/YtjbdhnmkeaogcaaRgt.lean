/- A key of so many bytes, made of whatever bytes. -/
import Derived.Test.YtjbdhnmkeaogcaaMacC
set_option linter.unusedVariables false
set_option linter.unusedSimpArgs false
namespace Lk
open Go Go.RowKit
def pright (key : List UInt8) (n : Nat) : List UInt8 := (List.range n).map fun i => if key.length = 0 then 0 else g8 key (i % key.length)
theorem pright_len (key : List UInt8) (n : Nat) : (pright key n).length = n := by simp [pright]
theorem pright_succ (key : List UInt8) (n : Nat) : pright key (n + 1) = pright key n ++ [if key.length = 0 then 0 else g8 key (n % key.length)] := by simp [pright, List.range_succ]
theorem SlB.cell {w : World} {g o L c : Nat} {l : List UInt8} (h : SlB w (.slice (some ⟨g, o, none⟩) L c) l) (k : Nat) (hk : k < l.length) : w.cell? ⟨g, o + k, none⟩ = some (.int .u8 (bv (g8 l k))) := by
  obtain ⟨A', c', e, _, h2, _, h4⟩ := h
  cases e
  obtain ⟨g', o', e2, hr⟩ := h4 (by omega)
  cases e2
  exact hr k hk
end Lk
