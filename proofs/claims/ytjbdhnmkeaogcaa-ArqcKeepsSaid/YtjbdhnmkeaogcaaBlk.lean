/- Block ciphers of each kind: what a cipher is in memory; fits, Size, New. -/
import Derived.Test.YtjbdhnmkeaogcaaDesW
import Derived.Test.YtjbdhnmkeaogcaaClone
import Derived.Test.YtjbdhnmkeaogcaaAes
set_option linter.unusedVariables false
set_option linter.unusedSimpArgs false
namespace Lk
open Go Go.RowKit
/-- whether a key of n bytes may be -/
def pfits (kind n : Nat) : Bool := if kind = 1 then n == 16 || n == 24 || n == 32 else n == 8 || n == 16 || n == 24
/-- the pointer is a cipher of this kind and key, all of it below B -/
def Cip (w : World) (B : Nat) (q : Value) (kind : Nat) (key : List UInt8) : Prop :=
  ∃ g v bk, q = .pointer (some ⟨g, 0, none⟩) ∧ g < B ∧ (∀ k, v.ownBlock = some k → k < B) ∧ w.cell? ⟨g, 0, none⟩ = some (.int .i64 kind) ∧ w.cell? ⟨g, 1, none⟩ = some v ∧ w.cell? ⟨g, 2, none⟩ = some bk ∧ SlB w v key
theorem cell_below {w w1 : World} {a : Addr} {v : Value} {B : Nat} (h : w.cell? a = some v) (hG : Below B w w1) (hb : a.block < B) : w1.cell? a = some v := by
  have := hG.block a.block hb
  simp only [World.cell?] at h ⊢
  rw [this]; exact h
theorem SlB.under {w w1 : World} {v : Value} {l : List UInt8} {B : Nat} (h : SlB w v l) (hG : Below B w w1) (hb : ∀ k, v.ownBlock = some k → k < B) : SlB w1 v l := by
  obtain ⟨A, c, rfl, h1, h2, h3, h4⟩ := h
  refine ⟨A, c, rfl, h1, h2, h3, fun hc => ?_⟩
  obtain ⟨g, o, rfl, hr⟩ := h4 hc
  exact ⟨g, o, rfl, hr.below hG (hb g rfl)⟩
theorem Cip.below {w w1 : World} {B B' : Nat} {q : Value} {kind : Nat} {key : List UInt8} (h : Cip w B q kind key) (hG : Below B' w w1) (hb : B ≤ B') : Cip w1 B q kind key := by
  obtain ⟨g, v, bk, h1, h2, h3, h4, h5, h6, h7⟩ := h
  exact ⟨g, v, bk, h1, h2, h3, cell_below h4 hG (Nat.lt_of_lt_of_le h2 hb), cell_below h5 hG (Nat.lt_of_lt_of_le h2 hb), cell_below h6 hG (Nat.lt_of_lt_of_le h2 hb), h7.under hG fun k hk => Nat.lt_of_lt_of_le (h3 k hk) hb⟩
theorem cell_alloc_new (w : World) (o : Array Value) (k : Nat) (v : Value) {T : TypeId} (h : o[k]? = some v) : (w.alloc (.cells o T)).cell? ⟨w.heap.size, k, none⟩ = some v := by
  have := cell_of_row (w.alloc (.cells o T)) w.heap.size k o T _ (heap_alloc_new w _)
  rw [this]; exact h
theorem Cip.more {w : World} {B B' : Nat} {q : Value} {kind : Nat} {key : List UInt8} (h : Cip w B q kind key) (hb : B ≤ B') : Cip w B' q kind key := by
  obtain ⟨g, v, bk, h1, h2, h3, h4⟩ := h
  exact ⟨g, v, bk, h1, Nat.lt_of_lt_of_le h2 hb, fun k hk => Nat.lt_of_lt_of_le (h3 k hk) hb, h4⟩
def psize (kind : Nat) : Nat := if kind = 2 then 8 else 16
end Lk
namespace Go.Proofs.Ytjbdhnmkeaogcaa
open Go.RowKit Lk
set_option maxHeartbeats 800000 in
set_option maxRecDepth 100000 in
theorem fits_any (kind n : Nat) (w : World) (hk : kind = 1 ∨ kind = 2) : Calls Try.prog 30 #[.int .i64 kind, .int .i64 n] w fun e w' => e = .returned (.bool (pfits kind n)) ∧ w' = w := by
  rcases hk with rfl | rfl
  · by_cases h16 : n = 16
    · subst h16
      go_enter Try.func30, Try.ntmps30
      go_wp2
      go_ret
      exact ⟨rfl, rfl⟩
    by_cases h24 : n = 24
    · subst h24
      go_enter Try.func30, Try.ntmps30
      go_wp2
      go_ret
      exact ⟨rfl, rfl⟩
    have hp := Lib.hid (show ((n : Int) == 16 || (n : Int) == 24 || (n : Int) == 32) = pfits 1 n from by
      rw [Bool.eq_iff_iff]; simp [pfits]; omega)
    have i1 : ¬ (n : Int) = 16 := by omega
    have i2 : ¬ (n : Int) = 24 := by omega
    clear h16 h24
    go_enter Try.func30, Try.ntmps30
    go_wp2
    go_ret
    exact ⟨by rw [← hp.out]; rfl, rfl⟩
  · by_cases h8 : n = 8
    · subst h8
      go_enter Try.func30, Try.ntmps30
      go_wp2
      go_ret
      exact ⟨rfl, rfl⟩
    by_cases h16 : n = 16
    · subst h16
      go_enter Try.func30, Try.ntmps30
      go_wp2
      go_ret
      exact ⟨rfl, rfl⟩
    have hp := Lib.hid (show ((n : Int) == 8 || (n : Int) == 16 || (n : Int) == 24) = pfits 2 n from by
      rw [Bool.eq_iff_iff]; simp [pfits]; omega)
    have i1 : ¬ (n : Int) = 8 := by omega
    have i2 : ¬ (n : Int) = 16 := by omega
    clear h8 h16
    go_enter Try.func30, Try.ntmps30
    go_wp2
    go_ret
    exact ⟨by rw [← hp.out]; rfl, rfl⟩
set_option maxHeartbeats 800000 in
set_option maxRecDepth 100000 in
theorem Size_any (q : Value) (kind B : Nat) (key : List UInt8) (w : World) (h : Cip w B q kind key) : Calls Try.prog 32 #[q] w fun e w' => e = .returned (.int .i64 (psize kind)) ∧ w' = w := by
  obtain ⟨g, v, bk, rfl, h2, h3, h4, h5, h6, h7⟩ := h
  by_cases hk : kind = 2
  · subst hk
    go_enter Try.func32, Try.ntmps32
    go_wp2
    go_ret
    exact ⟨rfl, rfl⟩
  · have i : ¬ (kind : Int) = 2 := by omega
    have hp : psize kind = 16 := by simp [psize, hk]
    rw [hp]
    clear hp
    go_enter Try.func32, Try.ntmps32
    go_wp2
    go_ret
    exact ⟨rfl, rfl⟩
/-- what New hands out -/
def Newed (w : World) (kind : Nat) (key : List UInt8) (e : Ending) (w' : World) : Prop :=
  ∃ q, e = .returned (.tuple #[q, .nilIface]) ∧ Cip w' w'.heap.size q kind key ∧ Below w.heap.size w w'
set_option maxHeartbeats 800000 in
set_option maxRecDepth 100000 in
theorem New_any (v : Value) (bp : Option Addr) (kind : Nat) (key : List UInt8) (w : World) (hk : kind = 1 ∨ kind = 2) (hf : pfits kind key.length = true) (h : SlB w v key) : Calls Try.prog 11 #[.int .i64 kind, v, .pointer bp] w (Newed w kind key) := by
  have hl : 0 < key.length ∧ key.length ≤ 1099511627776 := by
    rcases hk with rfl | rfl <;> simp [pfits] at hf <;> omega
  have HC := Lib.hid (clone_any v key w h hl.2)
  have HPos := Lib.hid hl.1
  have HF := Lib.hid (fits_any kind key.length w hk)
  rw [hf] at HF
  obtain ⟨A, c, rfl, hA, hlc, hcm, hr⟩ := h
  clear hA hlc hcm hr hf hl
  rcases hk with rfl | rfl
  all_goals
    go_enter Try.func11, Try.ntmps11
    go_wp2_with (first
      | (go_at_call 30; refine HF.out.mono ?_; rintro e w0 ⟨rfl, rfl⟩)
      | (go_at_call 31; refine HC.out.mono ?_; rintro e w1 ⟨v1, rfl, hO, hL⟩; have HO := Lib.hid hO; obtain ⟨g1, c1, rfl, _, _, _, _, _⟩ := hO.form HPos.out))
    have HO' := HO.out
    have hlt := HO'.lt g1 rfl
    go_ret2
    refine ⟨_, rfl, ⟨w1.heap.size, _, .pointer bp, rfl, ?_, ?_, cell_alloc_new _ _ 0 _ rfl, cell_alloc_new _ _ 1 _ rfl, cell_alloc_new _ _ 2 _ rfl, HO'.slB.alloc _⟩, ?_⟩
    · show w1.heap.size < (w1.heap.push _).size; simp
    · intro k hk
      have : k = g1 := by simpa [Value.ownBlock] using hk.symm
      subst this
      show k < (w1.heap.push _).size; simp; omega
    · exact below_none hL hL.size (grown_alloc (grown_refl w1 none) _)
end Go.Proofs.Ytjbdhnmkeaogcaa
