/- Answers of method 1: unlike codes have unlike answers; a region of reads and quiet calls, whatever the class of worlds. -/
import Derived.Test.YtjbdhnmkeaogcaaAwk19
import Derived.Test.YtjbdhnmkeaogcaaMacI
set_option linter.unusedVariables false
set_option linter.unusedSimpArgs false
namespace Lk
open Go Go.RowKit
theorem turn2_at (c a : List UInt8) (i : Nat) (hc : c.length = 8) (hi : i < 8) : g8 (turn2 c a) i = if i = 0 then g8 c 0 ^^^ g8 a 0 else if i = 1 then g8 c 1 ^^^ g8 a 1 else g8 c i := by
  unfold turn2
  have h0 : (0 : Nat) < c.length := by omega
  have h1 : (1 : Nat) < c.length := by omega
  by_cases e0 : i = 0
  · subst e0; simp [g8, h0]
  · by_cases e1 : i = 1
    · subst e1; simp [g8, h1]
    · rw [if_neg e0, if_neg e1]
      unfold g8
      rw [List.getD_eq_getElem?_getD, List.getElem?_set_ne (Ne.symm e1), List.getElem?_set_ne (Ne.symm e0), ← List.getD_eq_getElem?_getD]
theorem xor_left (a b c : UInt8) : c ^^^ a = c ^^^ b ↔ a = b := by rw [UInt8.xor_comm c a, UInt8.xor_comm c b]; exact xor_cancel a b c
theorem turn2_ans (c x y : List UInt8) (hc : c.length = 8) (hx : x.length = 2) (hy : y.length = 2) : turn2 c x = turn2 c y ↔ x = y := by
  constructor
  · intro h
    refine same_ext (by omega) fun i hi => ?_
    have h0 := congrArg (fun l => g8 l 0) h
    have h1 := congrArg (fun l => g8 l 1) h
    simp only [turn2_at c x 0 hc (by decide), turn2_at c y 0 hc (by decide), turn2_at c x 1 hc (by decide), turn2_at c y 1 hc (by decide), if_true, if_neg (show ¬ (1 : Nat) = 0 by decide)] at h0 h1
    rcases (show i = 0 ∨ i = 1 by omega) with rfl | rfl
    · exact (xor_left _ _ _).1 h0
    · exact (xor_left _ _ _).1 h1
  · intro h; rw [h]
theorem turn2_code (a b x : List UInt8) (ha : a.length = 8) (hb : b.length = 8) : turn2 a x = turn2 b x ↔ a = b := by
  constructor
  · intro h
    refine same_ext (by omega) fun i hi => ?_
    have h0 := congrArg (fun l => g8 l i) h
    simp only [turn2_at a x i ha (by omega), turn2_at b x i hb (by omega)] at h0
    by_cases e0 : i = 0
    · rw [if_pos e0, if_pos e0] at h0; rw [e0]; exact (xor_cancel _ _ _).1 h0
    · rw [if_neg e0, if_neg e0] at h0
      by_cases e1 : i = 1
      · rw [if_pos e1, if_pos e1] at h0; rw [e1]; exact (xor_cancel _ _ _).1 h0
      · rw [if_neg e1, if_neg e1] at h0; exact h0
  · intro h; rw [h]
theorem pone_ans (k c x y : List UInt8) (hc : c.length = 8) (hx : x.length = 2) (hy : y.length = 2) : (pone k c x == pone k c y) = (x == y) := by
  rw [Bool.eq_iff_iff, beq_iff_eq, beq_iff_eq]
  unfold pone
  rw [ptriple_inj _ _ _ _ (by rw [turn2_len, hc]) (by rw [turn2_len, hc]), turn2_ans c x y hc hx hy]
theorem pone_code (k a b x : List UInt8) (ha : a.length = 8) (hb : b.length = 8) : (pone k a x == pone k b x) = (a == b) := by
  rw [Bool.eq_iff_iff, beq_iff_eq, beq_iff_eq]
  unfold pone
  rw [ptriple_inj _ _ _ _ (by rw [turn2_len, ha]) (by rw [turn2_len, hb]), turn2_code a b x ha hb]
theorem Bs_two (l : List UInt8) (h : l.length = 2) : #[Value.int .u8 (bv (g8 l 0)), Value.int .u8 (bv (g8 l 1))] = Bs l := by
  match l, h with
  | [a, b], _ => rfl
/-- worlds that are as V was below block M -/
def BSub (M : Nat) (V : World) : Type := {x : World // Below M V x}
instance BSub.some (M : Nat) (V : World) : Nonempty (BSub M V) := ⟨⟨V, Below.refl M V⟩⟩
def BSub.is {M : Nat} {V : World} (x : BSub M V) : World := x.val
def BCls (M : Nat) (V : World) (w' : World) : Prop := ∃ x : BSub M V, w' = x.is
theorem bcls_of {M : Nat} {V w' : World} (h : Below M V w') : ∃ x : BSub M V, w' = x.is := ⟨⟨w', h⟩, rfl⟩
theorem of_bcls {M : Nat} {V w' : World} (h : ∃ x : BSub M V, w' = x.is) : Below M V w' := by
  obtain ⟨x, rfl⟩ := h
  exact x.property
/-- a region of reads and quiet calls, walked once, in whatever class of worlds -/
theorem wp_region_cls {P : Program} {id : Nat} {Q : Exit → Act → World → Prop} {a : Act} {w : World} {l : List Oper} (C : World → Prop) (hm : P.follows .mixedOrders = true) (hB : Region.lexB .any l.toArray = true) (hC : C w.drew)
    (h : wpQuiet P l.toArray C (fun a' => ∀ w', C w' → Q .normal a' w') l a) : (Code.region id l.toArray true).wp P Q a w :=
  wp_region_quiet (C := C) hm hB hC (by simpa using h)
end Lk
