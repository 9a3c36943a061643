/- slices.Clone of bytes. -/
import Derived.Test.YtjbdhnmkeaogcaaOwn
set_option linter.unusedVariables false
set_option linter.unusedSimpArgs false
namespace Go.Proofs.Ytjbdhnmkeaogcaa
open Go.RowKit Lk
/-- it returns a slice of its own that holds these bytes -/
def RetOwn (w : World) (l : List UInt8) (e : Ending) (w' : World) : Prop := ∃ v, e = .returned v ∧ Own w' w.heap.size v l ∧ Below w.heap.size w w'
set_option maxHeartbeats 400000 in
set_option maxRecDepth 100000 in
theorem clone_any (v : Value) (l : List UInt8) (w : World) (h : SlB w v l) (hl : l.length ≤ 1099511627776) : Calls Try.prog 31 #[v] w (RetOwn w l) := by
  obtain ⟨A, c, rfl, n1, n2, n3, n4⟩ := id h
  cases A with
  | none =>
    obtain rfl := n1 rfl
    have hm0 : l = [] := List.eq_nil_of_length_eq_zero (by omega)
    subst hm0
    have hq := fun w => Lib.run_eql_slice_nil (P := Try.prog) w 22 5 none 0 0 0 0 hu_sl
    clear h n1 n2 n3 n4
    go_enter Try.func31, Try.ntmps31
    go_wp2
    go_ret
    exact ⟨_, rfl, own_nil _ _, Below.refl _ _⟩
  | some ad =>
    have hq := fun w => Lib.run_eql_slice_nil (P := Try.prog) w 22 5 (some ad) l.length c 0 0 hu_sl
    have H := Lib.hid h
    clear h n1 n2 n3 n4
    go_enter Try.func31, Try.ntmps31
    go_wp2_with (at_builtin; refine append_b hu_sl hu_u8 rfl _ _ rfl w.heap.size _ [] rfl (own_lit0 w _ (Nat.le_refl _)) _ l rfl (H.out.alloc _) (by simp; omega) (by simp) ?_; intro v' w1 hO hG)
    go_ret
    exact ⟨_, rfl, hO, below_new ((Below.refl _ _).alloc (Nat.le_refl _) _) (by simp) hG (Nat.le_refl _)⟩
end Go.Proofs.Ytjbdhnmkeaogcaa
