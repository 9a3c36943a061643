/- Bytes held against each other. -/
import Derived.Test.YtjbdhnmkeaogcaaOwn
set_option linter.unusedVariables false
set_option linter.unusedSimpArgs false
namespace Lk
open Go Go.RowKit
theorem same_ext {a b : List UInt8} (h : a.length = b.length) (hi : ∀ i, i < a.length → g8 a i = g8 b i) : a = b := by
  apply List.ext_getElem h
  intro i h1 h2
  have := hi i h1
  simpa [g8, h1, h2] using this
/-- the sum of what differs in the first k bytes -/
def diffTo (a b : List UInt8) : Nat → UInt8
  | 0 => 0
  | k + 1 => diffTo a b k ||| (g8 a k ^^^ g8 b k)
theorem diffTo_zero (a b : List UInt8) (k : Nat) : diffTo a b k = 0 ↔ ∀ i, i < k → g8 a i = g8 b i := by
  induction k with
  | zero => simp [diffTo]
  | succ k ih =>
    have h1 : ∀ x y : UInt8, x ||| y = 0 ↔ x = 0 ∧ y = 0 := by
      intro x y
      constructor
      · intro h
        have := congrArg UInt8.toNat h
        rw [UInt8.toNat_or] at this
        have h2 : x.toNat = 0 ∧ y.toNat = 0 := Nat.or_eq_zero_iff.1 this
        exact ⟨UInt8.toNat_inj.1 h2.1, UInt8.toNat_inj.1 h2.2⟩
      · rintro ⟨rfl, rfl⟩; rfl
    have h2 : ∀ x y : UInt8, x ^^^ y = 0 ↔ x = y := by
      intro x y
      constructor
      · intro h
        have := congrArg (· ^^^ y) h
        simpa [UInt8.xor_assoc] using this
      · rintro rfl; simp
    simp only [diffTo]
    rw [h1, ih, h2]
    constructor
    · rintro ⟨p, q⟩ i hi
      by_cases e : i = k
      · rw [e]; exact q
      · exact p i (by omega)
    · intro p
      exact ⟨fun i hi => p i (by omega), p k (by omega)⟩
end Lk
namespace Go.Proofs.Ytjbdhnmkeaogcaa
open Go.RowKit Lk
set_option maxHeartbeats 800000 in
set_option maxRecDepth 100000 in
theorem Same_any (va vb : Value) (a b : List UInt8) (w : World) (ha : SlB w va a) (hb : SlB w vb b) (hl : a.length ≤ 1000000) :
    Calls Try.prog 14 #[va, vb] w fun e w' => e = .returned (.bool (a == b)) ∧ Drawn w w' := by
  obtain ⟨A, ca, rfl, _, hlca, hcma, hra⟩ := ha
  obtain ⟨B, cb, rfl, _, hlcb, hcmb, hrb⟩ := hb
  obtain ⟨m, em⟩ : ∃ m, a.length = m := ⟨_, rfl⟩
  obtain ⟨n, en⟩ : ∃ n, b.length = n := ⟨_, rfl⟩
  have EM := Lib.hid em
  have EN := Lib.hid en
  rw [em] at hlca hl ⊢
  rw [en] at hlcb ⊢
  have HRA := Lib.hid hra
  have HRB := Lib.hid hrb
  clear hra hrb em en
  by_cases hmn : m = n
  · subst hmn
    go_enter Try.func14, Try.ntmps14
    go_wp2
    go_loopw [5] (fun i wr => ∃ k : Nat, k ≤ m ∧ i = .int .i64 k ∧ (Hid (∀ j, j < k → g8 a j = g8 b j)) ∧ Drawn w wr) (fun i _ => m - (intOf i).toNat)
    case atStart => exact ⟨0, by omega, rfl, Lib.hid (fun j hj => by omega), Drawn.refl _⟩
    case round =>
      obtain ⟨k, hk, rfl, HS, ⟨q, rfl⟩⟩ := hrel
      by_cases hlt : k < m
      · obtain ⟨ga, oa, rfl, hrda⟩ := HRA.out (by omega)
        obtain ⟨gb, ob, rfl, hrdb⟩ := HRB.out (by omega)
        have c1 : w.cell? ⟨ga, oa + k, none⟩ = some (.int .u8 (bv (g8 a k))) := hrda k (by rw [EM.out]; exact hlt)
        have c2 : w.cell? ⟨gb, ob + k, none⟩ = some (.int .u8 (bv (g8 b k))) := hrdb k (by rw [EN.out]; exact hlt)
        have HLT := Lib.hid hlt
        clear hrda hrdb
        by_cases hd : g8 a k = g8 b k
        · have HD := Lib.hid hd
          have hd' : (g8 a k != g8 b k) = false := by rw [hd]; simp
          clear hd
          go_wp2
          go_region
          go_wp2
          go_roundw
          case rel =>
            refine ⟨k + 1, HLT.out, by go_num, Lib.hid (fun j hj => ?_), (Drawn.step (Drawn.refl w) q).drew⟩
            by_cases e : j = k
            · rw [e]; exact HD.out
            · exact HS.out j (by omega)
          case measure => have : k < m := HLT.out; simp [intOf]; omega
        · have hne : (a == b) = false := by
            rw [beq_eq_false_iff_ne]; intro e; exact hd (by rw [e])
          have HNE := Lib.hid hne
          have hd' : (g8 a k != g8 b k) = true := by simpa using hd
          clear hne hd
          go_wp2
          go_region
          go_wp2
          go_ret
          exact ⟨by rw [HNE.out]; rfl, (Drawn.step (Drawn.refl w) q).drew⟩
      · have HE := Lib.hid (show a = b from same_ext (by rw [EM.out, EN.out]) (fun i hi => HS.out i (by have := EM.out; omega)))
        go_wp2
        go_ret
        exact ⟨by rw [HE.out]; simp, (Drawn.step (Drawn.refl w) q)⟩
  · have hne : (a == b) = false := by
      rw [beq_eq_false_iff_ne]; intro e; apply hmn; rw [← EM.out, ← EN.out, e]
    rw [hne]
    have hmn' : ((m : Int) != (n : Int)) = true := by simp; omega
    clear hne
    go_enter Try.func14, Try.ntmps14
    go_wp2
    go_ret
    exact ⟨rfl, Drawn.refl _⟩
set_option maxHeartbeats 800000 in
set_option maxRecDepth 100000 in
theorem Equal_any (va vb : Value) (a b : List UInt8) (w : World) (ha : SlB w va a) (hb : SlB w vb b) (hl : a.length ≤ 1000000) :
    Calls Try.prog 48 #[va, vb] w fun e w' => e = .returned (.bool (a == b)) ∧ Drawn w w' := by
  obtain ⟨A, ca, rfl, _, hlca, hcma, hra⟩ := ha
  obtain ⟨B, cb, rfl, _, hlcb, hcmb, hrb⟩ := hb
  obtain ⟨m, em⟩ : ∃ m, a.length = m := ⟨_, rfl⟩
  obtain ⟨n, en⟩ : ∃ n, b.length = n := ⟨_, rfl⟩
  have EM := Lib.hid em
  have EN := Lib.hid en
  rw [em] at hlca hl ⊢
  rw [en] at hlcb ⊢
  have HRA := Lib.hid hra
  have HRB := Lib.hid hrb
  clear hra hrb em en
  by_cases hmn : m = n
  · subst hmn
    go_enter Try.func48, Try.ntmps48
    go_wp2
    go_loopw [5, 14] (fun d i wr => ∃ k : Nat, k ≤ m ∧ d = .int .u8 (bv (diffTo a b k)) ∧ i = .int .i64 k ∧ Drawn w wr) (fun _ i _ => m - (intOf i).toNat)
    case atStart => exact ⟨0, by omega, rfl, rfl, Drawn.refl _⟩
    case round =>
      obtain ⟨k, hk, rfl, rfl, ⟨q, rfl⟩⟩ := hrel
      by_cases hlt : k < m
      · obtain ⟨ga, oa, rfl, hrda⟩ := HRA.out (by omega)
        obtain ⟨gb, ob, rfl, hrdb⟩ := HRB.out (by omega)
        have c1 : w.cell? ⟨ga, oa + k, none⟩ = some (.int .u8 (bv (g8 a k))) := hrda k (by rw [EM.out]; exact hlt)
        have c2 : w.cell? ⟨gb, ob + k, none⟩ = some (.int .u8 (bv (g8 b k))) := hrdb k (by rw [EN.out]; exact hlt)
        have HLT := Lib.hid hlt
        clear hrda hrdb
        go_wp2
        go_region
        go_wp2
        go_roundw
        case rel => exact ⟨k + 1, HLT.out, rfl, by go_num, (Drawn.step (Drawn.refl w) q).drew⟩
        case measure => have : k < m := HLT.out; simp [intOf]; omega
      · have HE := Lib.hid (show (diffTo a b k == 0) = (a == b) by
          have hkm : k = m := by omega
          rw [Bool.eq_iff_iff, beq_iff_eq, beq_iff_eq, diffTo_zero]
          constructor
          · intro h
            exact same_ext (by rw [EM.out, EN.out]) (fun i hi => h i (by have := EM.out; omega))
          · intro h i hi; rw [h])
        have hz : ((bv (diffTo a b k) == (0 : Int))) = (a == b) := by rw [← HE.out]; exact bv_eq _ 0
        go_wp2
        go_ret
        exact ⟨rfl, (Drawn.step (Drawn.refl w) q)⟩
  · have hne : (a == b) = false := by
      rw [beq_eq_false_iff_ne]; intro e; apply hmn; rw [← EM.out, ← EN.out, e]
    rw [hne]
    have hmn' : ((m : Int) != (n : Int)) = true := by simp; omega
    clear hne
    go_enter Try.func48, Try.ntmps48
    go_wp2
    go_ret
    exact ⟨rfl, Drawn.refl _⟩
end Go.Proofs.Ytjbdhnmkeaogcaa
