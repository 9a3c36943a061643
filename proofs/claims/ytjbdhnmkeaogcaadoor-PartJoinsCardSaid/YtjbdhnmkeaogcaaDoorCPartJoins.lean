/- For every kind and all parts the law PartJoins of the layer of keys' parts returns true (the key, or what is wrong); its arguments read as they did; the variable errors.errorType starts as the program lays it. -/
import Derived.Test.YtjbdhnmkeaogcaaDoorKB7
import Derived.Deep.QuietTactic
import Derived.BigQuiet
import Derived.Test.YtjbdhnmkeaogcaaDoorKB2
import Derived.Test.YtjbdhnmkeaogcaaDoorKB5
import Derived.Test.YtjbdhnmkeaogcaaDoorKB0
import Derived.WalkKit
import Derived.ProofKit
import Derived.OpenShut
import Derived.ShutString
import Derived.ChangeOld
import Derived.SizedLaws
import Derived.ChangeSlices
import Derived.Deep.Slices
import Derived.Test.YtjbdhnmkeaogcaaDoorRows
import Derived.Test.YtjbdhnmkeaogcaaDoorKB6
import Derived.ChangeSame
import Derived.ChangeVars
import Derived.JoinedOf
import Derived.RowKit
import Derived.RowKitTokens
import Derived.LaidLaws
import Derived.LaidHandle
import Derived.Stop.Joined
import Derived.SevenTiedAt
import Derived.Test.YtjbdhnmkeaogcaaDoorCards
import Derived.Test.YtjbdhnmkeaogcaaDoorTie
set_option linter.unusedVariables false
set_option linter.unusedSimpArgs false
namespace Lk
open Go Go.RowKit
theorem odd1_all : allB (fun c => podd (podd1 c) && Nat.beq (Nat.div (podd1 c).toNat 2) (Nat.div c.toNat 2)) = true := by decide +kernel
theorem odd1_odd (c : UInt8) : podd (podd1 c) = true := by
  have h := allB_spec odd1_all c
  simp only [Bool.and_eq_true] at h; exact h.1
theorem odd1_half (c : UInt8) : bv (podd1 c) / 2 = bv c / 2 := by
  have h := allB_spec odd1_all c
  simp only [Bool.and_eq_true] at h
  have h2 : (podd1 c).toNat / 2 = c.toNat / 2 := Nat.eq_of_beq_eq_true h.2
  unfold bv
  omega
theorem podds_at (l : List UInt8) (k : Nat) (hk : k < l.length) : g8 (podds l) k = podd1 (g8 l k) := by
  unfold podds
  rw [oddTo_at l _ k hk, if_pos hk]
theorem first_none : ∀ (l : List UInt8) (i : Nat), (∀ c ∈ l, podd c = true) → firstFrom l i = -1
  | [], _, _ => rfl
  | c :: r, i, h => by
    rw [firstFrom, if_pos (h c (by simp))]
    exact first_none r (i + 1) fun x hx => h x (by simp [hx])
theorem first_podds (l : List UInt8) : pfirst (podds l) = -1 := by
  refine first_none _ _ fun c hc => ?_
  rw [podds_map] at hc
  obtain ⟨x, _, rfl⟩ := List.mem_map.1 hc
  exact odd1_odd x
theorem odd1_twice (c : UInt8) : podd1 (podd1 c) = podd1 c := by
  have h := odd1_odd c
  generalize podd1 c = x at h ⊢
  unfold podd1
  rw [if_pos h]
theorem podds_twice (l : List UInt8) : podds (podds l) = podds l := by
  rw [podds_map, podds_map, List.map_map]
  exact List.map_congr_left fun c _ => by rw [Function.comp_apply, odd1_twice]
end Lk
namespace Go.Proofs.YtjbdhnmkeaogcaaDoor
open Go.RowKit Lk
set_option maxHeartbeats 3200000 in
set_option maxRecDepth 100000 in
theorem PartOdd_any (v : Value) (l : List UInt8) (w : World) (hE : Et w) (h : SlB w v l) : Calls Tryd.prog 21 #[v] w fun e w' => e = .returned (.bool true) ∧ Below w.heap.size w w' := by
  obtain ⟨N, hN⟩ : ∃ N, w.heap.size = N := ⟨_, rfl⟩
  have HN := Lib.hid hN
  obtain ⟨L, hL⟩ : ∃ L, l.length = L := ⟨_, rfl⟩
  have EL := Lib.hid hL
  have HS := Lib.hid h
  obtain ⟨A, c, rfl, n1, n2, n3, n4⟩ := h
  rw [hL] at n2 HS ⊢
  have N4 := Lib.hid n4
  clear hL n1 n4
  have hM0 : Below N w w := Below.refl _ _
  have hs0 : N ≤ w.heap.size := by omega
  have E_0 := Lib.hid (hE)
  have S_0 := Lib.hid (HS.out)
  clear hE HS
  by_cases hl : L ≤ 100
  rotate_left
  · go_enter Tryd.func21, Tryd.ntmps21
    go_wp2_with fail
    refine (awake09 w E_0.out).mono ?_
    rintro e w1 ⟨rfl, hL⟩
    have hM1 : Below N w w1 := below_more hM0 hL hs0
    have hs1 : N ≤ w1.heap.size := Nat.le_trans hs0 (hL).size
    have E_1 := Lib.hid (E_0.out.below hL)
    clear E_0
    have S_1 := Lib.hid (S_0.out.below hL)
    clear S_0
    clear hM0 hs0
    clear hL
    go_wp2_with fail
    refine (awake09 w1 E_1.out).mono ?_
    rintro e w2 ⟨rfl, hL⟩
    have hM2 : Below N w w2 := below_more hM1 hL hs1
    have hs2 : N ≤ w2.heap.size := Nat.le_trans hs1 (hL).size
    have E_2 := Lib.hid (E_1.out.below hL)
    clear E_1
    have S_2 := Lib.hid (S_1.out.below hL)
    clear S_1
    clear hM1 hs1
    clear hL
    go_wp2_with fail
    go_ret
    exact ⟨rfl, by rw [HN.out]; exact hM2⟩
  go_enter Tryd.func21, Tryd.ntmps21
  go_wp2_with fail
  refine (awake09 w E_0.out).mono ?_
  rintro e w1 ⟨rfl, hL⟩
  have hM1 : Below N w w1 := below_more hM0 hL hs0
  have hs1 : N ≤ w1.heap.size := Nat.le_trans hs0 (hL).size
  have E_1 := Lib.hid (E_0.out.below hL)
  clear E_0
  have S_1 := Lib.hid (S_0.out.below hL)
  clear S_0
  clear hM0 hs0
  clear hL
  go_wp2_with fail
  refine (Odd_any _ l w1 S_1.out (by rw [EL.out]; omega)).mono ?_
  rintro e w2 ⟨v1, rfl, hO, hL⟩
  obtain ⟨A1, c1, e1, _, b1, b2, b3⟩ := hO.slB
  rw [podds_len, EL.out] at e1 b1
  subst e1
  have hO1 := hO
  have hM2 : Below N w w2 := below_more hM1 hL hs1
  have hs2 : N ≤ w2.heap.size := Nat.le_trans hs1 (hL).size
  have E_2 := Lib.hid (E_1.out.below hL)
  clear E_1
  have S_2 := Lib.hid (S_1.out.below hL)
  clear S_1
  clear hM1 hs1
  have O_2 := Lib.hid (hO)
  clear hL hO hO1
  go_wp2_with fail
  refine (Even_any _ (podds l) w2 O_2.out.slB (by rw [podds_len, EL.out]; omega)).mono ?_
  rintro e w3 ⟨rfl, hL⟩
  rw [first_podds]
  have hM3 : Below N w w3 := below_more hM2 hL hs2
  have hs3 : N ≤ w3.heap.size := Nat.le_trans hs2 (hL).size
  have E_3 := Lib.hid (E_2.out.below hL)
  clear E_2
  have S_3 := Lib.hid (S_2.out.below hL)
  clear S_2
  have O_3 := Lib.hid (O_2.out.under hL)
  clear O_2
  clear hM2 hs2
  clear hL
  go_wp2_with fail
  refine (Odd_any _ (podds l) w3 O_3.out.slB (by rw [podds_len, EL.out]; omega)).mono ?_
  rintro e w4 ⟨v2, rfl, hO, hL⟩
  rw [podds_twice] at hO
  have hM4 : Below N w w4 := below_more hM3 hL hs3
  have hs4 : N ≤ w4.heap.size := Nat.le_trans hs3 (hL).size
  have E_4 := Lib.hid (E_3.out.below hL)
  clear E_3
  have S_4 := Lib.hid (S_3.out.below hL)
  clear S_3
  have O_4 := Lib.hid (O_3.out.under hL)
  clear O_3
  clear hM3 hs3
  have O2_4 := Lib.hid (hO)
  clear hL hO
  go_wp2_with fail
  refine (Same_any _ _ (podds l) (podds l) w4 O2_4.out.slB O_4.out.slB (by rw [podds_len, EL.out]; omega)).mono ?_
  rintro e w5 ⟨rfl, hD⟩
  rw [beq_self_eq_true]
  have hM5 : Below N w w5 := below_more hM4 hD.below0 hs4
  have hs5 : N ≤ w5.heap.size := Nat.le_trans hs4 (hD.below0).size
  have E_5 := Lib.hid (E_4.out.below hD.below0)
  clear E_4
  have S_5 := Lib.hid (S_4.out.below hD.below0)
  clear S_4
  have O_5 := Lib.hid (O_4.out.under hD.below0)
  clear O_4
  have O2_5 := Lib.hid (O2_4.out.under hD.below0)
  clear O2_4
  clear hM4 hs4
  clear hD
  go_wp2_with fail
  have HM := Lib.hid hM5
  have HSZ := Lib.hid (show N ≤ w5.heap.size from hs5)
  clear hM5 hs5
  go_loopw [4] (fun i wr => ∃ k : Nat, k ≤ L ∧ i = .int .i64 k ∧ Drawn w5 wr) (fun i _ => L - (intOf i).toNat)
  case atStart => exact ⟨0, by omega, rfl, Drawn.refl _⟩
  case round =>
    obtain ⟨k, hk, rfl, hB⟩ := hrel
    by_cases hlt : k < L
    · have HLT := Lib.hid hlt
      obtain ⟨nq, rfl⟩ := hB
      obtain ⟨g, o, rfl, hr⟩ := N4.out (by omega)
      obtain ⟨gO, cO, eO, _, _, hrO, _, _⟩ := O_5.out.form (by rw [podds_len, EL.out]; omega)
      simp only [Value.slice.injEq] at eO
      obtain ⟨rfl, e2, e3⟩ := eO
      clear e2 e3
      have cc2 := cell_below (hr k (by rw [EL.out]; exact hlt)) HM.out (show g < N by rw [← HN.out]; exact block_of_cell (hr k (by rw [EL.out]; exact hlt)))
      have cc1 := hrO k (by rw [podds_len, EL.out]; exact hlt)
      rw [podds_at l k (by rw [EL.out]; exact hlt), Nat.zero_add] at cc1
      have ed := odd1_half (g8 l k)
      have q0 := bv_ge (g8 l k)
      have q1 := bv_ge (podd1 (g8 l k))
      generalize g8 l k = x at cc1 cc2 ed q0 q1
      generalize bv (podd1 x) = y at cc1 ed q1
      have hne : (y.tdiv 2 % 256 != (bv x).tdiv 2 % 256) = false := by rw [Int.tdiv_eq_ediv_of_nonneg q1, Int.tdiv_eq_ediv_of_nonneg q0, ed]; simp
      clear hr hrO hlt ed
      go_wp2
      go_quiet (fail)
      go_wp2
      go_roundw
      case rel => exact ⟨k + 1, HLT.out, by go_num, ⟨_, rfl⟩⟩
      case measure => have := HLT.out; simp [intOf]; omega
    · go_wp2
      go_ret
      obtain ⟨nq, rfl⟩ := hB
      exact ⟨rfl, by rw [HN.out]; exact below_more HM.out (Drawn.below0 ⟨nq, rfl⟩) HSZ.out⟩
end Go.Proofs.YtjbdhnmkeaogcaaDoor
set_option linter.unusedVariables false
set_option linter.unusedSimpArgs false
namespace Lk
open Go Go.RowKit
/-- worlds that are as V was below block M -/
def BSub (M : Nat) (V : World) : Type := {x : World // Below M V x}
instance BSub.some (M : Nat) (V : World) : Nonempty (BSub M V) := ⟨⟨V, Below.refl M V⟩⟩
def BSub.is {M : Nat} {V : World} (x : BSub M V) : World := x.val
def BCls (M : Nat) (V : World) (w' : World) : Prop := ∃ x : BSub M V, w' = x.is
theorem bcls_of {M : Nat} {V w' : World} (h : Below M V w') : ∃ x : BSub M V, w' = x.is := ⟨⟨w', h⟩, rfl⟩
theorem of_bcls {M : Nat} {V w' : World} (h : ∃ x : BSub M V, w' = x.is) : Below M V w' := by
  obtain ⟨x, rfl⟩ := h
  exact x.property
/-- a region of reads and quiet calls, walked once, in whatever class of worlds -/
theorem wp_region_cls {P : Program} {id : Nat} {Q : Exit → Act → World → Prop} {a : Act} {w : World} {l : List Oper} (C : World → Prop) (hm : P.follows .mixedOrders = true) (hB : Region.lexB .any l.toArray = true) (hC : C w.drew)
    (h : wpQuiet P l.toArray C (fun a' => ∀ w', C w' → Q .normal a' w') l a) : (Code.region id l.toArray true).wp P Q a w :=
  wp_region_quiet (C := C) hm hB hC (by simpa using h)
end Lk
set_option linter.unusedVariables false
set_option linter.unusedSimpArgs false
namespace Lk
open Go Go.RowKit
def half (l : List UInt8) : List UInt8 := l.map (fun c : UInt8 => c >>> 1)
theorem half_at (l : List UInt8) (k : Nat) (hk : k < l.length) : g8 (half l) k = g8 l k >>> 1 := by
  unfold half
  rw [g8_lt (l := l.map (fun c : UInt8 => c >>> 1)) (by simpa using hk), g8_lt hk]
  simp
theorem half_len (l : List UInt8) : (half l).length = l.length := by simp [half]
theorem bv_shr1 (a : UInt8) : bv (a >>> 1) = bv a / 2 := (half_u8 a).symm
theorem bv_inj {a b : UInt8} (h : bv a = bv b) : a = b := (u8_eq a b).1 h
theorem odd1_det_all : allB (fun c => podd1 c == podd1 ((c >>> 1) <<< 1)) = true := by decide +kernel
theorem odd1_det (c : UInt8) : podd1 c = podd1 ((c >>> 1) <<< 1) := by simpa using allB_spec odd1_det_all c
theorem odd1_eq (x y : UInt8) : podd1 x = podd1 y ↔ x >>> 1 = y >>> 1 := by
  constructor
  · intro h
    have h1 := odd1_half x
    have h2 := odd1_half y
    rw [h] at h1
    apply bv_inj
    rw [bv_shr1, bv_shr1, ← h1, ← h2]
  · intro h
    rw [odd1_det x, odd1_det y, h]
theorem podds_eq (a b : List UInt8) (h : a.length = b.length) : podds a = podds b ↔ half a = half b := by
  constructor
  · intro e
    refine same_ext (by rw [half_len, half_len, h]) fun i hi => ?_
    rw [half_len] at hi
    rw [half_at a i hi, half_at b i (by omega)]
    apply (odd1_eq _ _).1
    rw [← podds_at a i hi, ← podds_at b i (by omega), e]
  · intro e
    refine same_ext (by rw [podds_len, podds_len, h]) fun i hi => ?_
    rw [podds_len] at hi
    rw [podds_at a i hi, podds_at b i (by omega)]
    apply (odd1_eq _ _).2
    rw [← half_at a i hi, ← half_at b i (by omega), e]
theorem half_pxor (a b c : List UInt8) (hb : b.length = a.length) (hc : c.length = a.length) : half (pxor a b) = half (pxor a c) ↔ half b = half c := by
  have key : ∀ i, i < a.length → (g8 (half (pxor a b)) i = g8 (half (pxor a c)) i ↔ g8 (half b) i = g8 (half c) i) := by
    intro i hi
    rw [half_at _ i (by rw [pxor_len]; exact hi), half_at _ i (by rw [pxor_len]; exact hi), half_at b i (by omega), half_at c i (by omega), pxor_at a b i hi, pxor_at a c i hi, shr_xor, shr_xor]
    exact UInt8.xor_right_inj _
  constructor
  · intro e
    refine same_ext (by rw [half_len, half_len, hb, hc]) fun i hi => (key i (by rw [half_len] at hi; omega)).1 (by rw [e])
  · intro e
    refine same_ext (by rw [half_len, half_len, pxor_len, pxor_len]) fun i hi => (key i (by rw [half_len, pxor_len] at hi; exact hi)).2 (by rw [e])
theorem join_turn (a b c : List UInt8) (ha : a.length = b.length) (hc : c.length = b.length) : pxor (pxor a b) c = pxor (pxor c a) b := by
  refine same_ext (by simp only [pxor_len]; omega) fun i hi => ?_
  simp only [pxor_len] at hi
  rw [pxor_at _ c i (by rw [pxor_len]; exact hi), pxor_at a b i hi, pxor_at _ b i (by rw [pxor_len]; omega), pxor_at c a i (by omega)]
  rw [UInt8.xor_comm (g8 c i), UInt8.xor_assoc, UInt8.xor_assoc, UInt8.xor_comm (g8 b i)]
theorem join_back (a b : List UInt8) (h : a.length = b.length) : pxor (pxor a b) b = a := by
  refine same_ext (by simp only [pxor_len]) fun i hi => ?_
  simp only [pxor_len] at hi
  rw [pxor_at _ b i (by rw [pxor_len]; exact hi), pxor_at a b i hi, UInt8.xor_assoc, UInt8.xor_self, UInt8.xor_zero]
end Lk
namespace Go.Proofs.YtjbdhnmkeaogcaaDoor
open Go.RowKit Lk
set_option maxHeartbeats 1600000 in
set_option maxRecDepth 100000 in
theorem alike_any (va vb : Value) (a b : List UInt8) (w : World) (ha : SlB w va a) (hb : SlB w vb b) (hab : a.length = b.length) (hl : a.length ≤ 1000) :
    Calls Tryd.prog 62 #[va, vb] w fun e w' => e = .returned (.bool (half a == half b)) ∧ Drawn w w' := by
  obtain ⟨L, hL⟩ : ∃ L, a.length = L := ⟨_, rfl⟩
  have EL := Lib.hid hL
  have EB := Lib.hid (show b.length = L by omega)
  obtain ⟨A, c, rfl, _, a1, a2, a3⟩ := ha
  obtain ⟨B, d, rfl, _, b1, b2, b3⟩ := hb
  rw [← hab, hL] at b1 ⊢
  rw [hL] at a1 hl
  have A3 := Lib.hid a3
  have B3 := Lib.hid b3
  clear hab hL a3 b3
  have hs : ∀ k, k ≤ L → (∀ i, i < k → g8 a i >>> 1 = g8 b i >>> 1) → True := fun _ _ _ => trivial
  clear hs
  go_enter Tryd.func62, Tryd.ntmps62
  go_wp2
  go_loopw [5] (fun i wr => ∃ k : Nat, k ≤ L ∧ i = .int .i64 k ∧ Hid (∀ i, i < k → g8 a i >>> 1 = g8 b i >>> 1) ∧ Drawn w wr) (fun i _ => L - (intOf i).toNat)
  case atStart => exact ⟨0, by omega, rfl, Lib.hid (fun i h => absurd h (Nat.not_lt_zero i)), Drawn.refl _⟩
  case round =>
    obtain ⟨k, hk, rfl, hS, hB⟩ := hrel
    by_cases hlt : k < L
    · have HLT := Lib.hid hlt
      obtain ⟨nq, rfl⟩ := hB
      obtain ⟨g, o, rfl, hr⟩ := A3.out (by omega)
      obtain ⟨g2, o2, rfl, hr2⟩ := B3.out (by omega)
      have c1 := hr k (by rw [EL.out]; exact hlt)
      have c2 := hr2 k (by rw [EB.out]; exact hlt)
      have q0 := bv_ge (g8 a k)
      have q1 := bv_ge (g8 b k)
      have hh := bv_shr1 (g8 a k)
      have hh2 := bv_shr1 (g8 b k)
      by_cases he : g8 a k >>> 1 = g8 b k >>> 1
      · have hne : ((bv (g8 a k)).tdiv 2 % 256 != (bv (g8 b k)).tdiv 2 % 256) = false := by
          rw [Int.tdiv_eq_ediv_of_nonneg q0, Int.tdiv_eq_ediv_of_nonneg q1, ← hh, ← hh2, he]; simp
        have HE := Lib.hid he
        generalize bv (g8 a k) = x at c1 q0 hne
        generalize bv (g8 b k) = y at c2 q1 hne
        clear hr hr2 hlt he hh hh2
        go_wp2
        go_quiet (fail)
        go_wp2
        go_roundw
        case rel => exact ⟨k + 1, HLT.out, by go_num, Lib.hid (fun i hi => (Nat.lt_or_ge i k).elim (fun h => hS.out i h) (fun h => (show i = k by omega) ▸ HE.out)), ⟨_, rfl⟩⟩
        case measure => have := HLT.out; simp [intOf]; omega
      · have hne : ((bv (g8 a k)).tdiv 2 % 256 != (bv (g8 b k)).tdiv 2 % 256) = true := by
          rw [Int.tdiv_eq_ediv_of_nonneg q0, Int.tdiv_eq_ediv_of_nonneg q1, ← hh, ← hh2]
          have h1 := bv_lt (g8 a k >>> 1)
          have h2 := bv_lt (g8 b k >>> 1)
          have h3 := bv_ge (g8 a k >>> 1)
          have h4 := bv_ge (g8 b k >>> 1)
          have h5 : bv (g8 a k >>> 1) ≠ bv (g8 b k >>> 1) := fun h => he (bv_inj h)
          simp
          omega
        have HE := Lib.hid he
        generalize bv (g8 a k) = x at c1 q0 hne
        generalize bv (g8 b k) = y at c2 q1 hne
        clear hr hr2 hlt he hh hh2
        go_wp2
        go_quiet (fail)
        go_wp2
        go_ret
        refine ⟨congrArg (fun b => Ending.returned (.bool b)) ?_, by first | exact ⟨_, rfl⟩ | exact Drawn.step ⟨_, rfl⟩ _⟩
        symm
        rw [beq_eq_false_iff_ne]
        intro e
        have := HE.out
        rw [← half_at a k (by rw [EL.out]; exact HLT.out), ← half_at b k (by rw [EB.out]; exact HLT.out), e] at this
        exact this rfl
    · have HK := Lib.hid (show k = L by omega)
      go_wp2
      go_ret
      refine ⟨congrArg (fun b => Ending.returned (.bool b)) ?_, hB⟩
      symm
      rw [beq_iff_eq]
      refine same_ext (by rw [half_len, half_len, EL.out, EB.out]) fun i hi => ?_
      rw [half_len, EL.out] at hi
      rw [half_at a i (by rw [EL.out]; exact hi), half_at b i (by rw [EB.out]; exact hi)]
      exact hS.out i (by rw [HK.out]; exact hi)
end Go.Proofs.YtjbdhnmkeaogcaaDoor
set_option linter.unusedVariables false
set_option linter.unusedSimpArgs false
namespace Lk
open Go Go.RowKit
theorem badFrom_none (kind : Int) (n : Nat) (hz : psz kind n = 0) : ∀ (ls : List (List UInt8)) (i : Nat), (∀ l ∈ ls, l.length = n) → badFrom kind n ls i = none
  | [], _, _ => rfl
  | l :: r, i, h => by
    have hl := h l (by simp)
    rw [badFrom, if_neg (by rw [hl]; simp [hz])]
    exact badFrom_none kind n hz r (i + 1) fun x hx => h x (by simp [hx])
theorem pbad_none (kind : Int) (n : Nat) (ls : List (List UInt8)) (hz : psz kind n = 0) (h0 : 0 < ls.length) (h : ∀ l ∈ ls, l.length = n) : pbad kind ls = none := by
  unfold pbad
  have : (gl ls 0).length = n := by
    match ls, h0 with
    | l :: r, _ => exact h l (by simp)
  rw [this]
  exact badFrom_none kind n hz ls 0 h
end Lk
namespace Go.Proofs.YtjbdhnmkeaogcaaDoor
open Go.RowKit Lk
theorem slSl_three {w : World} {g1 g2 g3 n c1 c2 c3 : Nat} {a b c : List UInt8} (h1 : SlB w (.slice (some ⟨g1, 0, none⟩) n c1) a) (h2 : SlB w (.slice (some ⟨g2, 0, none⟩) n c2) b) (h3 : SlB w (.slice (some ⟨g3, 0, none⟩) n c3) c) :
    SlSl (w.alloc (.cells #[.slice (some ⟨g1, 0, none⟩) n c1, .slice (some ⟨g2, 0, none⟩) n c2, .slice (some ⟨g3, 0, none⟩) n c3] 22)) (.slice (some ⟨w.heap.size, 0, none⟩) 3 3) [a, b, c] := by
  refine ⟨[_, _, _], slV_lit w [.slice (some ⟨g1, 0, none⟩) n c1, .slice (some ⟨g2, 0, none⟩) n c2, .slice (some ⟨g3, 0, none⟩) n c3] 3 _ rfl (by decide), rfl, fun k l hk => ?_⟩
  rcases k with _ | _ | _ | k
  · obtain rfl : a = l := by simpa using hk
    exact ⟨_, rfl, h1.alloc _⟩
  · obtain rfl : b = l := by simpa using hk
    exact ⟨_, rfl, h2.alloc _⟩
  · obtain rfl : c = l := by simpa using hk
    exact ⟨_, rfl, h3.alloc _⟩
  · simp at hk
theorem pright_odds (l : List UInt8) (n : Nat) (hl : l.length = n) (hz : psz 2 n = 0) : pright 2 (podds l) = none := by
  unfold pright
  rw [podds_len, hl, hz, first_podds]
  simp
set_option maxHeartbeats 12800000 in
set_option maxRecDepth 100000 in
theorem PartJoin_any (a b c : List UInt8) (long : Bool) (w : World) (hE : Et w) (ha : a.length = 24) (hb : b.length = 24) (hc : c.length = 24) : Calls Tryd.prog 19 #[.agg (Bs a), .agg (Bs b), .agg (Bs c), .bool long] w fun e w' => e = .returned (.bool true) ∧ Below w.heap.size w w' := by
  obtain ⟨N, hN⟩ : ∃ N, w.heap.size = N := ⟨_, rfl⟩
  have HN := Lib.hid hN
  have HA := Lib.hid ha
  have HB := Lib.hid hb
  have HC := Lib.hid hc
  have HE := Lib.hid hE
  clear ha hb hc hE
  cases long
  · have hM0 : Below N w w := Below.refl _ _
    have hs0 : N ≤ w.heap.size := by omega
    have E_0 := Lib.hid (HE.out)
    have HTA := Lib.hid (show (a.take 16).length = 16 from by rw [List.length_take, HA.out]; rfl)
    obtain ⟨ta, eta⟩ : ∃ t, a.take 16 = t := ⟨_, rfl⟩
    have ETA := Lib.hid eta
    rw [eta] at HTA
    clear eta
    have HTB := Lib.hid (show (b.take 16).length = 16 from by rw [List.length_take, HB.out]; rfl)
    obtain ⟨tb, etb⟩ : ∃ t, b.take 16 = t := ⟨_, rfl⟩
    have ETB := Lib.hid etb
    rw [etb] at HTB
    clear etb
    have HTC := Lib.hid (show (c.take 16).length = 16 from by rw [List.length_take, HC.out]; rfl)
    obtain ⟨tc, etc⟩ : ∃ t, c.take 16 = t := ⟨_, rfl⟩
    have ETC := Lib.hid etc
    rw [etc] at HTC
    clear etc
    have HXL := Lib.hid (show pjoin 1 [ta, tb, tc] = pjoin 1 [tc, ta, tb] from join_turn ta tb tc (by rw [HTA.out, HTB.out]) (by rw [HTC.out, HTB.out]))
    have HZL := Lib.hid (show pjoin 1 [ta, tb, tb] = ta from join_back ta tb (by rw [HTA.out, HTB.out]))
    have hp : (pjoin 2 [ta, tb] == pjoin 2 [ta, tc]) = (half tb == half tc) := by
      rw [Bool.eq_iff_iff, beq_iff_eq, beq_iff_eq]
      show podds (pxor ta tb) = podds (pxor ta tc) ↔ _
      rw [podds_eq _ _ (by rw [pxor_len, pxor_len]), half_pxor ta tb tc (by rw [HTA.out, HTB.out]) (by rw [HTA.out, HTC.out])]
    obtain ⟨p, ep⟩ : ∃ p, (half tb == half tc) = p := ⟨_, rfl⟩
    rw [ep] at hp
    have HP := Lib.hid hp
    have EP := Lib.hid ep
    clear hp ep
    have HLX := Lib.hid (show (pjoin 1 [ta, tb, tc]).length = 16 from (show (pxor (pxor ta tb) tc).length = 16 from by rw [pxor_len, pxor_len, HTA.out]))
    have HLU := Lib.hid (show (pjoin 2 [ta, tb]).length = 16 from (show (podds (pxor ta tb)).length = 16 from by rw [podds_len, pxor_len, HTA.out]))
    go_enter Tryd.func19, Tryd.ntmps19
    go_wp2_with (first
      | ((with_reducible show wpList _ _ _ _ _ w); refine box_blk (w := w) rfl 88 _ rfl a rfl ?_; intro u0 hA0 hG0 hz0; rw [hN] at hA0 hz0 ⊢)
      | ((with_reducible show wpList _ _ _ _ _ u0); refine box_blk (w := u0) rfl 88 _ rfl b rfl ?_; intro u1 hB1 hG1 hz1; rw [hz0] at hB1 hz1 ⊢; have hA1 := hA0.old hG1 (by simp))
      | ((with_reducible show wpList _ _ _ _ _ u1); refine box_blk (w := u1) rfl 88 _ rfl c rfl ?_; intro u2 hC2 hG2 hz2; rw [hz1] at hC2 hz2 ⊢; have hA2 := hA1.old hG2 (by simp); have hB2 := hB1.old hG2 (by simp)))
    have hL : Below w.heap.size w u2 := below_none (below_none (below_none (Below.refl _ _) (Nat.le_refl _) hG0) (by omega) hG1) (by omega) hG2
    clear hG0 hG1 hG2 hA0 hA1 hB1 hz0 hz1 hz2
    have hM1 : Below N w u2 := below_more hM0 hL hs0
    have hs1 : N ≤ u2.heap.size := Nat.le_trans hs0 (hL).size
    have E_1 := Lib.hid (E_0.out.below hL)
    clear E_0
    clear hM0 hs0
    clear hL
    have A_1 := Lib.hid (hA2)
    have B_1 := Lib.hid (hB2)
    have C_1 := Lib.hid (hC2)
    clear hA2 hB2 hC2
    have HBD := Lib.hid (pbad_none 1 16 [ta, tb, tc] (by decide) (by simp) (by intro l hl; simp only [List.mem_cons, List.not_mem_nil, or_false] at hl; rcases hl with rfl | rfl | rfl <;> first | exact HTA.out | exact HTB.out | exact HTC.out))
    go_region_held3 (fun _ => True) (trivial) ((go_at_call 59; refine (Join_any 1 _ [ta, tb, tc] _ (by decide) (by simp) (by simp) (slSl_three (w := u2.drewN 1) (by have h := A_1.out.slTo (n := 16) HA.out (by decide) (by decide); rw [ETA.out] at h; exact h.drewN 1) (by have h := B_1.out.slTo (n := 16) HB.out (by decide) (by decide); rw [ETB.out] at h; exact h.drewN 1) (by have h := C_1.out.slTo (n := 16) HC.out (by decide) (by decide); rw [ETC.out] at h; exact h.drewN 1)) (fun k => by rcases k with _ | _ | _ | k <;> simp [gl, HTA.out, HTB.out, HTC.out])).mono ?_; rintro e w2 ⟨vX, uX, rfl, hJ, hLx⟩))
    unfold JoinR at hJ
    rw [HBD.out] at hJ
    obtain ⟨rfl, hO⟩ := hJ
    have hL : Below u2.heap.size u2 w2 := below_more (below_alloc (Drawn.below0 ⟨1, rfl⟩) (Nat.le_refl _) _) hLx (by simp)
    clear HBD hLx
    have hM2 : Below N w w2 := below_more hM1 hL hs1
    have hs2 : N ≤ w2.heap.size := Nat.le_trans hs1 (hL).size
    have E_2 := Lib.hid (E_1.out.below hL)
    clear E_1
    have A_2 := Lib.hid (A_1.out.under hL)
    clear A_1
    have B_2 := Lib.hid (B_1.out.under hL)
    clear B_1
    have C_2 := Lib.hid (C_1.out.under hL)
    clear C_1
    clear hM1 hs1
    have X_2 := Lib.hid (hO)
    clear hO hL
    go_wp2_with fail
    have HBD := Lib.hid (pbad_none 1 16 [tc, ta, tb] (by decide) (by simp) (by intro l hl; simp only [List.mem_cons, List.not_mem_nil, or_false] at hl; rcases hl with rfl | rfl | rfl <;> first | exact HTA.out | exact HTB.out | exact HTC.out))
    go_region_held3 (fun _ => True) (trivial) ((go_at_call 59; refine (Join_any 1 _ [tc, ta, tb] _ (by decide) (by simp) (by simp) (slSl_three (w := w2.drewN 1) (by have h := C_2.out.slTo (n := 16) HC.out (by decide) (by decide); rw [ETC.out] at h; exact h.drewN 1) (by have h := A_2.out.slTo (n := 16) HA.out (by decide) (by decide); rw [ETA.out] at h; exact h.drewN 1) (by have h := B_2.out.slTo (n := 16) HB.out (by decide) (by decide); rw [ETB.out] at h; exact h.drewN 1)) (fun k => by rcases k with _ | _ | _ | k <;> simp [gl, HTA.out, HTB.out, HTC.out])).mono ?_; rintro e w3 ⟨vY, uY, rfl, hJ, hLx⟩))
    unfold JoinR at hJ
    rw [HBD.out] at hJ
    obtain ⟨rfl, hO⟩ := hJ
    have hL : Below w2.heap.size w2 w3 := below_more (below_alloc (Drawn.below0 ⟨1, rfl⟩) (Nat.le_refl _) _) hLx (by simp)
    clear HBD hLx
    have hM3 : Below N w w3 := below_more hM2 hL hs2
    have hs3 : N ≤ w3.heap.size := Nat.le_trans hs2 (hL).size
    have E_3 := Lib.hid (E_2.out.below hL)
    clear E_2
    have A_3 := Lib.hid (A_2.out.under hL)
    clear A_2
    have B_3 := Lib.hid (B_2.out.under hL)
    clear B_2
    have C_3 := Lib.hid (C_2.out.under hL)
    clear C_2
    have X_3 := Lib.hid (X_2.out.under hL)
    clear X_2
    clear hM2 hs2
    have Y_3 := Lib.hid (hO)
    clear hO hL
    go_wp2_with fail
    have HBD := Lib.hid (pbad_none 1 16 [ta, tb, tb] (by decide) (by simp) (by intro l hl; simp only [List.mem_cons, List.not_mem_nil, or_false] at hl; rcases hl with rfl | rfl | rfl <;> first | exact HTA.out | exact HTB.out | exact HTC.out))
    go_region_held3 (fun _ => True) (trivial) ((go_at_call 59; refine (Join_any 1 _ [ta, tb, tb] _ (by decide) (by simp) (by simp) (slSl_three (w := w3.drewN 1) (by have h := A_3.out.slTo (n := 16) HA.out (by decide) (by decide); rw [ETA.out] at h; exact h.drewN 1) (by have h := B_3.out.slTo (n := 16) HB.out (by decide) (by decide); rw [ETB.out] at h; exact h.drewN 1) (by have h := B_3.out.slTo (n := 16) HB.out (by decide) (by decide); rw [ETB.out] at h; exact h.drewN 1)) (fun k => by rcases k with _ | _ | _ | k <;> simp [gl, HTA.out, HTB.out, HTC.out])).mono ?_; rintro e w4 ⟨vZ, uZ, rfl, hJ, hLx⟩))
    unfold JoinR at hJ
    rw [HBD.out] at hJ
    obtain ⟨rfl, hO⟩ := hJ
    have hL : Below w3.heap.size w3 w4 := below_more (below_alloc (Drawn.below0 ⟨1, rfl⟩) (Nat.le_refl _) _) hLx (by simp)
    clear HBD hLx
    have hM4 : Below N w w4 := below_more hM3 hL hs3
    have hs4 : N ≤ w4.heap.size := Nat.le_trans hs3 (hL).size
    have E_4 := Lib.hid (E_3.out.below hL)
    clear E_3
    have A_4 := Lib.hid (A_3.out.under hL)
    clear A_3
    have B_4 := Lib.hid (B_3.out.under hL)
    clear B_3
    have C_4 := Lib.hid (C_3.out.under hL)
    clear C_3
    have X_4 := Lib.hid (X_3.out.under hL)
    clear X_3
    have Y_4 := Lib.hid (Y_3.out.under hL)
    clear Y_3
    clear hM3 hs3
    have Z_4 := Lib.hid (hO)
    clear hO hL
    go_wp2_with fail
    have HBD := Lib.hid (pbad_none 2 16 [ta, tb] (by decide) (by simp) (by intro l hl; simp only [List.mem_cons, List.not_mem_nil, or_false] at hl; rcases hl with rfl | rfl <;> first | exact HTA.out | exact HTB.out | exact HTC.out))
    go_region_held3 (fun _ => True) (trivial) ((go_at_call 59; refine (Join_any 2 _ [ta, tb] _ (by decide) (by simp) (by simp) (slSl_two (w := w4.drewN 1) (by have h := A_4.out.slTo (n := 16) HA.out (by decide) (by decide); rw [ETA.out] at h; exact h.drewN 1) (by have h := B_4.out.slTo (n := 16) HB.out (by decide) (by decide); rw [ETB.out] at h; exact h.drewN 1)) (fun k => by rcases k with _ | _ | _ | k <;> simp [gl, HTA.out, HTB.out, HTC.out])).mono ?_; rintro e w5 ⟨vU, uU, rfl, hJ, hLx⟩))
    unfold JoinR at hJ
    rw [HBD.out] at hJ
    obtain ⟨rfl, hO⟩ := hJ
    have hL : Below w4.heap.size w4 w5 := below_more (below_alloc (Drawn.below0 ⟨1, rfl⟩) (Nat.le_refl _) _) hLx (by simp)
    clear HBD hLx
    have hM5 : Below N w w5 := below_more hM4 hL hs4
    have hs5 : N ≤ w5.heap.size := Nat.le_trans hs4 (hL).size
    have E_5 := Lib.hid (E_4.out.below hL)
    clear E_4
    have A_5 := Lib.hid (A_4.out.under hL)
    clear A_4
    have B_5 := Lib.hid (B_4.out.under hL)
    clear B_4
    have C_5 := Lib.hid (C_4.out.under hL)
    clear C_4
    have X_5 := Lib.hid (X_4.out.under hL)
    clear X_4
    have Y_5 := Lib.hid (Y_4.out.under hL)
    clear Y_4
    have Z_5 := Lib.hid (Z_4.out.under hL)
    clear Z_4
    clear hM4 hs4
    have U_5 := Lib.hid (hO)
    clear hO hL
    go_wp2_with fail
    have HBD := Lib.hid (pbad_none 2 16 [ta, tc] (by decide) (by simp) (by intro l hl; simp only [List.mem_cons, List.not_mem_nil, or_false] at hl; rcases hl with rfl | rfl <;> first | exact HTA.out | exact HTB.out | exact HTC.out))
    go_region_held3 (fun _ => True) (trivial) ((go_at_call 59; refine (Join_any 2 _ [ta, tc] _ (by decide) (by simp) (by simp) (slSl_two (w := w5.drewN 1) (by have h := A_5.out.slTo (n := 16) HA.out (by decide) (by decide); rw [ETA.out] at h; exact h.drewN 1) (by have h := C_5.out.slTo (n := 16) HC.out (by decide) (by decide); rw [ETC.out] at h; exact h.drewN 1)) (fun k => by rcases k with _ | _ | _ | k <;> simp [gl, HTA.out, HTB.out, HTC.out])).mono ?_; rintro e w6 ⟨vV, uV, rfl, hJ, hLx⟩))
    unfold JoinR at hJ
    rw [HBD.out] at hJ
    obtain ⟨rfl, hO⟩ := hJ
    have hL : Below w5.heap.size w5 w6 := below_more (below_alloc (Drawn.below0 ⟨1, rfl⟩) (Nat.le_refl _) _) hLx (by simp)
    clear HBD hLx
    have hM6 : Below N w w6 := below_more hM5 hL hs5
    have hs6 : N ≤ w6.heap.size := Nat.le_trans hs5 (hL).size
    have E_6 := Lib.hid (E_5.out.below hL)
    clear E_5
    have A_6 := Lib.hid (A_5.out.under hL)
    clear A_5
    have B_6 := Lib.hid (B_5.out.under hL)
    clear B_5
    have C_6 := Lib.hid (C_5.out.under hL)
    clear C_5
    have X_6 := Lib.hid (X_5.out.under hL)
    clear X_5
    have Y_6 := Lib.hid (Y_5.out.under hL)
    clear Y_5
    have Z_6 := Lib.hid (Z_5.out.under hL)
    clear Z_5
    have U_6 := Lib.hid (U_5.out.under hL)
    clear U_5
    clear hM5 hs5
    have V_6 := Lib.hid (hO)
    clear hO hL
    go_wp2_with fail
    obtain ⟨M1, eM1⟩ : ∃ M, w6.heap.size = M := ⟨_, rfl⟩
    have HSM := Lib.hid (show ∀ w9, Below M1 w6 w9 → M1 ≤ w9.heap.size from fun w9 h => by rw [← eM1]; exact h.size)
    have HUP := Lib.hid (show ∀ w9, Below M1 w6 w9 → Below w6.heap.size w6 w9 from fun w9 h => by rw [eM1]; exact h)
    refine wp_region_cls (fun w9 => ∃ x : BSub M1 w6, w9 = x.is) (by kernel_rfl) (by kernel_rfl) (bcls_of (by rw [← eM1]; exact below_drew _)) ?_
    refine quiet_enter (by kernel_rfl) 60 #[] (.bool true) (fun _ => by kernel_rfl) (fun w9 h9x => by have h9 := of_bcls h9x; exact (awake09 w9 (E_6.out.below (HUP.out w9 h9))).mono fun e w10 ⟨he, hl⟩ => ⟨he, bcls_of (below_more h9 hl (HSM.out w9 h9))⟩) ?_
    simp only [Act.put, List.setIfInBounds_toArray, List.set_cons_succ, List.set_cons_zero]
    repeat (go_big_quiet_step (fail))
    refine quiet_enter (by kernel_rfl) 33 #[vX, vY] (.bool true) (fun _ => by kernel_rfl) (fun w9 h9x => by have h9 := of_bcls h9x; exact (Same_any _ _ (pjoin 1 [ta, tb, tc]) (pjoin 1 [tc, ta, tb]) w9 (X_6.out.under (HUP.out w9 h9)).slB (Y_6.out.under (HUP.out w9 h9)).slB (by rw [HLX.out]; decide)).mono fun e w10 ⟨he, hd⟩ => ⟨by rw [he, HXL.out, beq_self_eq_true], bcls_of (below_more h9 hd.below0 (HSM.out w9 h9))⟩) ?_
    simp only [Act.put, List.setIfInBounds_toArray, List.set_cons_succ, List.set_cons_zero]
    repeat (go_big_quiet_step (fail))
    refine quiet_enter (by kernel_rfl) 33 #[vZ, .slice (some ⟨N, 0, none⟩) 16 24] (.bool true) (fun _ => by kernel_rfl) (fun w9 h9x => by have h9 := of_bcls h9x; exact (Same_any _ _ (pjoin 1 [ta, tb, tb]) ta w9 (Z_6.out.under (HUP.out w9 h9)).slB (by have h := (A_6.out.under (HUP.out w9 h9)).slTo (n := 16) HA.out (by decide) (by decide); rw [ETA.out] at h; exact h) (by rw [HZL.out, HTA.out]; decide)).mono fun e w10 ⟨he, hd⟩ => ⟨by rw [he, HZL.out, beq_self_eq_true], bcls_of (below_more h9 hd.below0 (HSM.out w9 h9))⟩) ?_
    simp only [Act.put, List.setIfInBounds_toArray, List.set_cons_succ, List.set_cons_zero]
    repeat (go_big_quiet_step (fail))
    refine quiet_enter (by kernel_rfl) 61 #[.int .i64 2, vU] (.nilIface) (fun _ => by kernel_rfl) (fun w9 h9x => by have h9 := of_bcls h9x; exact (Right_key 2 _ (pjoin 2 [ta, tb]) w9 (U_6.out.under (HUP.out w9 h9)).slB (by rw [HLU.out]; decide)).mono fun e w10 ⟨u, he, hr, hl⟩ => ⟨by rw [show pjoin 2 [ta, tb] = podds (pxor ta tb) from rfl, pright_odds _ 16 (by rw [pxor_len, HTA.out]) (by decide)] at hr; rw [he, show u = Value.nilIface from hr], bcls_of (below_more h9 hl (HSM.out w9 h9))⟩) ?_
    simp only [Act.put, List.setIfInBounds_toArray, List.set_cons_succ, List.set_cons_zero]
    repeat (go_big_quiet_step (fail))
    refine quiet_enter (by kernel_rfl) 33 #[vU, vV] (.bool p) (fun _ => by kernel_rfl) (fun w9 h9x => by have h9 := of_bcls h9x; exact (Same_any _ _ (pjoin 2 [ta, tb]) (pjoin 2 [ta, tc]) w9 (U_6.out.under (HUP.out w9 h9)).slB (V_6.out.under (HUP.out w9 h9)).slB (by rw [HLU.out]; decide)).mono fun e w10 ⟨he, hd⟩ => ⟨by rw [he, HP.out], bcls_of (below_more h9 hd.below0 (HSM.out w9 h9))⟩) ?_
    simp only [Act.put, List.setIfInBounds_toArray, List.set_cons_succ, List.set_cons_zero]
    repeat (go_big_quiet_step (fail))
    refine quiet_enter (by kernel_rfl) 62 #[.slice (some ⟨N + 1, 0, none⟩) 16 24, .slice (some ⟨N + 1 + 1, 0, none⟩) 16 24] (.bool p) (fun _ => by kernel_rfl) (fun w9 h9x => by have h9 := of_bcls h9x; exact (alike_any _ _ tb tc w9 (by have h := (B_6.out.under (HUP.out w9 h9)).slTo (n := 16) HB.out (by decide) (by decide); rw [ETB.out] at h; exact h) (by have h := (C_6.out.under (HUP.out w9 h9)).slTo (n := 16) HC.out (by decide) (by decide); rw [ETC.out] at h; exact h) (by rw [HTB.out, HTC.out]) (by rw [HTB.out]; decide)).mono fun e w10 ⟨he, hd⟩ => ⟨by rw [he, EP.out], bcls_of (below_more h9 hd.below0 (HSM.out w9 h9))⟩) ?_
    simp only [Act.put, List.setIfInBounds_toArray, List.set_cons_succ, List.set_cons_zero]
    repeat (go_big_quiet_step (fail))
    refine wpQuiet_nil ?_
    intro w7 h9x
    have hL : Below w6.heap.size w6 w7 := by rw [eM1]; exact of_bcls h9x
    clear h9x HUP HSM eM1
    have hM7 : Below N w w7 := below_more hM6 hL hs6
    have hs7 : N ≤ w7.heap.size := Nat.le_trans hs6 (hL).size
    have E_7 := Lib.hid (E_6.out.below hL)
    clear E_6
    have A_7 := Lib.hid (A_6.out.under hL)
    clear A_6
    have B_7 := Lib.hid (B_6.out.under hL)
    clear B_6
    have C_7 := Lib.hid (C_6.out.under hL)
    clear C_6
    have X_7 := Lib.hid (X_6.out.under hL)
    clear X_6
    have Y_7 := Lib.hid (Y_6.out.under hL)
    clear Y_6
    have Z_7 := Lib.hid (Z_6.out.under hL)
    clear Z_6
    have U_7 := Lib.hid (U_6.out.under hL)
    clear U_6
    have V_7 := Lib.hid (V_6.out.under hL)
    clear V_6
    clear hM6 hs6
    clear hL
    go_wp2_with fail
    go_ret
    exact ⟨rfl, by rw [HN.out]; exact hM7⟩
  · have hM0 : Below N w w := Below.refl _ _
    have hs0 : N ≤ w.heap.size := by omega
    have E_0 := Lib.hid (HE.out)
    have HTA := Lib.hid (show (a.take 24).length = 24 from by rw [List.length_take, HA.out]; rfl)
    obtain ⟨ta, eta⟩ : ∃ t, a.take 24 = t := ⟨_, rfl⟩
    have ETA := Lib.hid eta
    rw [eta] at HTA
    clear eta
    have HTB := Lib.hid (show (b.take 24).length = 24 from by rw [List.length_take, HB.out]; rfl)
    obtain ⟨tb, etb⟩ : ∃ t, b.take 24 = t := ⟨_, rfl⟩
    have ETB := Lib.hid etb
    rw [etb] at HTB
    clear etb
    have HTC := Lib.hid (show (c.take 24).length = 24 from by rw [List.length_take, HC.out]; rfl)
    obtain ⟨tc, etc⟩ : ∃ t, c.take 24 = t := ⟨_, rfl⟩
    have ETC := Lib.hid etc
    rw [etc] at HTC
    clear etc
    have HXL := Lib.hid (show pjoin 1 [ta, tb, tc] = pjoin 1 [tc, ta, tb] from join_turn ta tb tc (by rw [HTA.out, HTB.out]) (by rw [HTC.out, HTB.out]))
    have HZL := Lib.hid (show pjoin 1 [ta, tb, tb] = ta from join_back ta tb (by rw [HTA.out, HTB.out]))
    have hp : (pjoin 2 [ta, tb] == pjoin 2 [ta, tc]) = (half tb == half tc) := by
      rw [Bool.eq_iff_iff, beq_iff_eq, beq_iff_eq]
      show podds (pxor ta tb) = podds (pxor ta tc) ↔ _
      rw [podds_eq _ _ (by rw [pxor_len, pxor_len]), half_pxor ta tb tc (by rw [HTA.out, HTB.out]) (by rw [HTA.out, HTC.out])]
    obtain ⟨p, ep⟩ : ∃ p, (half tb == half tc) = p := ⟨_, rfl⟩
    rw [ep] at hp
    have HP := Lib.hid hp
    have EP := Lib.hid ep
    clear hp ep
    have HLX := Lib.hid (show (pjoin 1 [ta, tb, tc]).length = 24 from (show (pxor (pxor ta tb) tc).length = 24 from by rw [pxor_len, pxor_len, HTA.out]))
    have HLU := Lib.hid (show (pjoin 2 [ta, tb]).length = 24 from (show (podds (pxor ta tb)).length = 24 from by rw [podds_len, pxor_len, HTA.out]))
    go_enter Tryd.func19, Tryd.ntmps19
    go_wp2_with (first
      | ((with_reducible show wpList _ _ _ _ _ w); refine box_blk (w := w) rfl 88 _ rfl a rfl ?_; intro u0 hA0 hG0 hz0; rw [hN] at hA0 hz0 ⊢)
      | ((with_reducible show wpList _ _ _ _ _ u0); refine box_blk (w := u0) rfl 88 _ rfl b rfl ?_; intro u1 hB1 hG1 hz1; rw [hz0] at hB1 hz1 ⊢; have hA1 := hA0.old hG1 (by simp))
      | ((with_reducible show wpList _ _ _ _ _ u1); refine box_blk (w := u1) rfl 88 _ rfl c rfl ?_; intro u2 hC2 hG2 hz2; rw [hz1] at hC2 hz2 ⊢; have hA2 := hA1.old hG2 (by simp); have hB2 := hB1.old hG2 (by simp)))
    have hL : Below w.heap.size w u2 := below_none (below_none (below_none (Below.refl _ _) (Nat.le_refl _) hG0) (by omega) hG1) (by omega) hG2
    clear hG0 hG1 hG2 hA0 hA1 hB1 hz0 hz1 hz2
    have hM1 : Below N w u2 := below_more hM0 hL hs0
    have hs1 : N ≤ u2.heap.size := Nat.le_trans hs0 (hL).size
    have E_1 := Lib.hid (E_0.out.below hL)
    clear E_0
    clear hM0 hs0
    clear hL
    have A_1 := Lib.hid (hA2)
    have B_1 := Lib.hid (hB2)
    have C_1 := Lib.hid (hC2)
    clear hA2 hB2 hC2
    have HBD := Lib.hid (pbad_none 1 24 [ta, tb, tc] (by decide) (by simp) (by intro l hl; simp only [List.mem_cons, List.not_mem_nil, or_false] at hl; rcases hl with rfl | rfl | rfl <;> first | exact HTA.out | exact HTB.out | exact HTC.out))
    go_region_held3 (fun _ => True) (trivial) ((go_at_call 59; refine (Join_any 1 _ [ta, tb, tc] _ (by decide) (by simp) (by simp) (slSl_three (w := u2.drewN 1) (by have h := A_1.out.slTo (n := 24) HA.out (by decide) (by decide); rw [ETA.out] at h; exact h.drewN 1) (by have h := B_1.out.slTo (n := 24) HB.out (by decide) (by decide); rw [ETB.out] at h; exact h.drewN 1) (by have h := C_1.out.slTo (n := 24) HC.out (by decide) (by decide); rw [ETC.out] at h; exact h.drewN 1)) (fun k => by rcases k with _ | _ | _ | k <;> simp [gl, HTA.out, HTB.out, HTC.out])).mono ?_; rintro e w2 ⟨vX, uX, rfl, hJ, hLx⟩))
    unfold JoinR at hJ
    rw [HBD.out] at hJ
    obtain ⟨rfl, hO⟩ := hJ
    have hL : Below u2.heap.size u2 w2 := below_more (below_alloc (Drawn.below0 ⟨1, rfl⟩) (Nat.le_refl _) _) hLx (by simp)
    clear HBD hLx
    have hM2 : Below N w w2 := below_more hM1 hL hs1
    have hs2 : N ≤ w2.heap.size := Nat.le_trans hs1 (hL).size
    have E_2 := Lib.hid (E_1.out.below hL)
    clear E_1
    have A_2 := Lib.hid (A_1.out.under hL)
    clear A_1
    have B_2 := Lib.hid (B_1.out.under hL)
    clear B_1
    have C_2 := Lib.hid (C_1.out.under hL)
    clear C_1
    clear hM1 hs1
    have X_2 := Lib.hid (hO)
    clear hO hL
    go_wp2_with fail
    have HBD := Lib.hid (pbad_none 1 24 [tc, ta, tb] (by decide) (by simp) (by intro l hl; simp only [List.mem_cons, List.not_mem_nil, or_false] at hl; rcases hl with rfl | rfl | rfl <;> first | exact HTA.out | exact HTB.out | exact HTC.out))
    go_region_held3 (fun _ => True) (trivial) ((go_at_call 59; refine (Join_any 1 _ [tc, ta, tb] _ (by decide) (by simp) (by simp) (slSl_three (w := w2.drewN 1) (by have h := C_2.out.slTo (n := 24) HC.out (by decide) (by decide); rw [ETC.out] at h; exact h.drewN 1) (by have h := A_2.out.slTo (n := 24) HA.out (by decide) (by decide); rw [ETA.out] at h; exact h.drewN 1) (by have h := B_2.out.slTo (n := 24) HB.out (by decide) (by decide); rw [ETB.out] at h; exact h.drewN 1)) (fun k => by rcases k with _ | _ | _ | k <;> simp [gl, HTA.out, HTB.out, HTC.out])).mono ?_; rintro e w3 ⟨vY, uY, rfl, hJ, hLx⟩))
    unfold JoinR at hJ
    rw [HBD.out] at hJ
    obtain ⟨rfl, hO⟩ := hJ
    have hL : Below w2.heap.size w2 w3 := below_more (below_alloc (Drawn.below0 ⟨1, rfl⟩) (Nat.le_refl _) _) hLx (by simp)
    clear HBD hLx
    have hM3 : Below N w w3 := below_more hM2 hL hs2
    have hs3 : N ≤ w3.heap.size := Nat.le_trans hs2 (hL).size
    have E_3 := Lib.hid (E_2.out.below hL)
    clear E_2
    have A_3 := Lib.hid (A_2.out.under hL)
    clear A_2
    have B_3 := Lib.hid (B_2.out.under hL)
    clear B_2
    have C_3 := Lib.hid (C_2.out.under hL)
    clear C_2
    have X_3 := Lib.hid (X_2.out.under hL)
    clear X_2
    clear hM2 hs2
    have Y_3 := Lib.hid (hO)
    clear hO hL
    go_wp2_with fail
    have HBD := Lib.hid (pbad_none 1 24 [ta, tb, tb] (by decide) (by simp) (by intro l hl; simp only [List.mem_cons, List.not_mem_nil, or_false] at hl; rcases hl with rfl | rfl | rfl <;> first | exact HTA.out | exact HTB.out | exact HTC.out))
    go_region_held3 (fun _ => True) (trivial) ((go_at_call 59; refine (Join_any 1 _ [ta, tb, tb] _ (by decide) (by simp) (by simp) (slSl_three (w := w3.drewN 1) (by have h := A_3.out.slTo (n := 24) HA.out (by decide) (by decide); rw [ETA.out] at h; exact h.drewN 1) (by have h := B_3.out.slTo (n := 24) HB.out (by decide) (by decide); rw [ETB.out] at h; exact h.drewN 1) (by have h := B_3.out.slTo (n := 24) HB.out (by decide) (by decide); rw [ETB.out] at h; exact h.drewN 1)) (fun k => by rcases k with _ | _ | _ | k <;> simp [gl, HTA.out, HTB.out, HTC.out])).mono ?_; rintro e w4 ⟨vZ, uZ, rfl, hJ, hLx⟩))
    unfold JoinR at hJ
    rw [HBD.out] at hJ
    obtain ⟨rfl, hO⟩ := hJ
    have hL : Below w3.heap.size w3 w4 := below_more (below_alloc (Drawn.below0 ⟨1, rfl⟩) (Nat.le_refl _) _) hLx (by simp)
    clear HBD hLx
    have hM4 : Below N w w4 := below_more hM3 hL hs3
    have hs4 : N ≤ w4.heap.size := Nat.le_trans hs3 (hL).size
    have E_4 := Lib.hid (E_3.out.below hL)
    clear E_3
    have A_4 := Lib.hid (A_3.out.under hL)
    clear A_3
    have B_4 := Lib.hid (B_3.out.under hL)
    clear B_3
    have C_4 := Lib.hid (C_3.out.under hL)
    clear C_3
    have X_4 := Lib.hid (X_3.out.under hL)
    clear X_3
    have Y_4 := Lib.hid (Y_3.out.under hL)
    clear Y_3
    clear hM3 hs3
    have Z_4 := Lib.hid (hO)
    clear hO hL
    go_wp2_with fail
    have HBD := Lib.hid (pbad_none 2 24 [ta, tb] (by decide) (by simp) (by intro l hl; simp only [List.mem_cons, List.not_mem_nil, or_false] at hl; rcases hl with rfl | rfl <;> first | exact HTA.out | exact HTB.out | exact HTC.out))
    go_region_held3 (fun _ => True) (trivial) ((go_at_call 59; refine (Join_any 2 _ [ta, tb] _ (by decide) (by simp) (by simp) (slSl_two (w := w4.drewN 1) (by have h := A_4.out.slTo (n := 24) HA.out (by decide) (by decide); rw [ETA.out] at h; exact h.drewN 1) (by have h := B_4.out.slTo (n := 24) HB.out (by decide) (by decide); rw [ETB.out] at h; exact h.drewN 1)) (fun k => by rcases k with _ | _ | _ | k <;> simp [gl, HTA.out, HTB.out, HTC.out])).mono ?_; rintro e w5 ⟨vU, uU, rfl, hJ, hLx⟩))
    unfold JoinR at hJ
    rw [HBD.out] at hJ
    obtain ⟨rfl, hO⟩ := hJ
    have hL : Below w4.heap.size w4 w5 := below_more (below_alloc (Drawn.below0 ⟨1, rfl⟩) (Nat.le_refl _) _) hLx (by simp)
    clear HBD hLx
    have hM5 : Below N w w5 := below_more hM4 hL hs4
    have hs5 : N ≤ w5.heap.size := Nat.le_trans hs4 (hL).size
    have E_5 := Lib.hid (E_4.out.below hL)
    clear E_4
    have A_5 := Lib.hid (A_4.out.under hL)
    clear A_4
    have B_5 := Lib.hid (B_4.out.under hL)
    clear B_4
    have C_5 := Lib.hid (C_4.out.under hL)
    clear C_4
    have X_5 := Lib.hid (X_4.out.under hL)
    clear X_4
    have Y_5 := Lib.hid (Y_4.out.under hL)
    clear Y_4
    have Z_5 := Lib.hid (Z_4.out.under hL)
    clear Z_4
    clear hM4 hs4
    have U_5 := Lib.hid (hO)
    clear hO hL
    go_wp2_with fail
    have HBD := Lib.hid (pbad_none 2 24 [ta, tc] (by decide) (by simp) (by intro l hl; simp only [List.mem_cons, List.not_mem_nil, or_false] at hl; rcases hl with rfl | rfl <;> first | exact HTA.out | exact HTB.out | exact HTC.out))
    go_region_held3 (fun _ => True) (trivial) ((go_at_call 59; refine (Join_any 2 _ [ta, tc] _ (by decide) (by simp) (by simp) (slSl_two (w := w5.drewN 1) (by have h := A_5.out.slTo (n := 24) HA.out (by decide) (by decide); rw [ETA.out] at h; exact h.drewN 1) (by have h := C_5.out.slTo (n := 24) HC.out (by decide) (by decide); rw [ETC.out] at h; exact h.drewN 1)) (fun k => by rcases k with _ | _ | _ | k <;> simp [gl, HTA.out, HTB.out, HTC.out])).mono ?_; rintro e w6 ⟨vV, uV, rfl, hJ, hLx⟩))
    unfold JoinR at hJ
    rw [HBD.out] at hJ
    obtain ⟨rfl, hO⟩ := hJ
    have hL : Below w5.heap.size w5 w6 := below_more (below_alloc (Drawn.below0 ⟨1, rfl⟩) (Nat.le_refl _) _) hLx (by simp)
    clear HBD hLx
    have hM6 : Below N w w6 := below_more hM5 hL hs5
    have hs6 : N ≤ w6.heap.size := Nat.le_trans hs5 (hL).size
    have E_6 := Lib.hid (E_5.out.below hL)
    clear E_5
    have A_6 := Lib.hid (A_5.out.under hL)
    clear A_5
    have B_6 := Lib.hid (B_5.out.under hL)
    clear B_5
    have C_6 := Lib.hid (C_5.out.under hL)
    clear C_5
    have X_6 := Lib.hid (X_5.out.under hL)
    clear X_5
    have Y_6 := Lib.hid (Y_5.out.under hL)
    clear Y_5
    have Z_6 := Lib.hid (Z_5.out.under hL)
    clear Z_5
    have U_6 := Lib.hid (U_5.out.under hL)
    clear U_5
    clear hM5 hs5
    have V_6 := Lib.hid (hO)
    clear hO hL
    go_wp2_with fail
    obtain ⟨M1, eM1⟩ : ∃ M, w6.heap.size = M := ⟨_, rfl⟩
    have HSM := Lib.hid (show ∀ w9, Below M1 w6 w9 → M1 ≤ w9.heap.size from fun w9 h => by rw [← eM1]; exact h.size)
    have HUP := Lib.hid (show ∀ w9, Below M1 w6 w9 → Below w6.heap.size w6 w9 from fun w9 h => by rw [eM1]; exact h)
    refine wp_region_cls (fun w9 => ∃ x : BSub M1 w6, w9 = x.is) (by kernel_rfl) (by kernel_rfl) (bcls_of (by rw [← eM1]; exact below_drew _)) ?_
    refine quiet_enter (by kernel_rfl) 60 #[] (.bool true) (fun _ => by kernel_rfl) (fun w9 h9x => by have h9 := of_bcls h9x; exact (awake09 w9 (E_6.out.below (HUP.out w9 h9))).mono fun e w10 ⟨he, hl⟩ => ⟨he, bcls_of (below_more h9 hl (HSM.out w9 h9))⟩) ?_
    simp only [Act.put, List.setIfInBounds_toArray, List.set_cons_succ, List.set_cons_zero]
    repeat (go_big_quiet_step (fail))
    refine quiet_enter (by kernel_rfl) 33 #[vX, vY] (.bool true) (fun _ => by kernel_rfl) (fun w9 h9x => by have h9 := of_bcls h9x; exact (Same_any _ _ (pjoin 1 [ta, tb, tc]) (pjoin 1 [tc, ta, tb]) w9 (X_6.out.under (HUP.out w9 h9)).slB (Y_6.out.under (HUP.out w9 h9)).slB (by rw [HLX.out]; decide)).mono fun e w10 ⟨he, hd⟩ => ⟨by rw [he, HXL.out, beq_self_eq_true], bcls_of (below_more h9 hd.below0 (HSM.out w9 h9))⟩) ?_
    simp only [Act.put, List.setIfInBounds_toArray, List.set_cons_succ, List.set_cons_zero]
    repeat (go_big_quiet_step (fail))
    refine quiet_enter (by kernel_rfl) 33 #[vZ, .slice (some ⟨N, 0, none⟩) 24 24] (.bool true) (fun _ => by kernel_rfl) (fun w9 h9x => by have h9 := of_bcls h9x; exact (Same_any _ _ (pjoin 1 [ta, tb, tb]) ta w9 (Z_6.out.under (HUP.out w9 h9)).slB (by have h := (A_6.out.under (HUP.out w9 h9)).slTo (n := 24) HA.out (by decide) (by decide); rw [ETA.out] at h; exact h) (by rw [HZL.out, HTA.out]; decide)).mono fun e w10 ⟨he, hd⟩ => ⟨by rw [he, HZL.out, beq_self_eq_true], bcls_of (below_more h9 hd.below0 (HSM.out w9 h9))⟩) ?_
    simp only [Act.put, List.setIfInBounds_toArray, List.set_cons_succ, List.set_cons_zero]
    repeat (go_big_quiet_step (fail))
    refine quiet_enter (by kernel_rfl) 61 #[.int .i64 2, vU] (.nilIface) (fun _ => by kernel_rfl) (fun w9 h9x => by have h9 := of_bcls h9x; exact (Right_key 2 _ (pjoin 2 [ta, tb]) w9 (U_6.out.under (HUP.out w9 h9)).slB (by rw [HLU.out]; decide)).mono fun e w10 ⟨u, he, hr, hl⟩ => ⟨by rw [show pjoin 2 [ta, tb] = podds (pxor ta tb) from rfl, pright_odds _ 24 (by rw [pxor_len, HTA.out]) (by decide)] at hr; rw [he, show u = Value.nilIface from hr], bcls_of (below_more h9 hl (HSM.out w9 h9))⟩) ?_
    simp only [Act.put, List.setIfInBounds_toArray, List.set_cons_succ, List.set_cons_zero]
    repeat (go_big_quiet_step (fail))
    refine quiet_enter (by kernel_rfl) 33 #[vU, vV] (.bool p) (fun _ => by kernel_rfl) (fun w9 h9x => by have h9 := of_bcls h9x; exact (Same_any _ _ (pjoin 2 [ta, tb]) (pjoin 2 [ta, tc]) w9 (U_6.out.under (HUP.out w9 h9)).slB (V_6.out.under (HUP.out w9 h9)).slB (by rw [HLU.out]; decide)).mono fun e w10 ⟨he, hd⟩ => ⟨by rw [he, HP.out], bcls_of (below_more h9 hd.below0 (HSM.out w9 h9))⟩) ?_
    simp only [Act.put, List.setIfInBounds_toArray, List.set_cons_succ, List.set_cons_zero]
    repeat (go_big_quiet_step (fail))
    refine quiet_enter (by kernel_rfl) 62 #[.slice (some ⟨N + 1, 0, none⟩) 24 24, .slice (some ⟨N + 1 + 1, 0, none⟩) 24 24] (.bool p) (fun _ => by kernel_rfl) (fun w9 h9x => by have h9 := of_bcls h9x; exact (alike_any _ _ tb tc w9 (by have h := (B_6.out.under (HUP.out w9 h9)).slTo (n := 24) HB.out (by decide) (by decide); rw [ETB.out] at h; exact h) (by have h := (C_6.out.under (HUP.out w9 h9)).slTo (n := 24) HC.out (by decide) (by decide); rw [ETC.out] at h; exact h) (by rw [HTB.out, HTC.out]) (by rw [HTB.out]; decide)).mono fun e w10 ⟨he, hd⟩ => ⟨by rw [he, EP.out], bcls_of (below_more h9 hd.below0 (HSM.out w9 h9))⟩) ?_
    simp only [Act.put, List.setIfInBounds_toArray, List.set_cons_succ, List.set_cons_zero]
    repeat (go_big_quiet_step (fail))
    refine wpQuiet_nil ?_
    intro w7 h9x
    have hL : Below w6.heap.size w6 w7 := by rw [eM1]; exact of_bcls h9x
    clear h9x HUP HSM eM1
    have hM7 : Below N w w7 := below_more hM6 hL hs6
    have hs7 : N ≤ w7.heap.size := Nat.le_trans hs6 (hL).size
    have E_7 := Lib.hid (E_6.out.below hL)
    clear E_6
    have A_7 := Lib.hid (A_6.out.under hL)
    clear A_6
    have B_7 := Lib.hid (B_6.out.under hL)
    clear B_6
    have C_7 := Lib.hid (C_6.out.under hL)
    clear C_6
    have X_7 := Lib.hid (X_6.out.under hL)
    clear X_6
    have Y_7 := Lib.hid (Y_6.out.under hL)
    clear Y_6
    have Z_7 := Lib.hid (Z_6.out.under hL)
    clear Z_6
    have U_7 := Lib.hid (U_6.out.under hL)
    clear U_6
    have V_7 := Lib.hid (V_6.out.under hL)
    clear V_6
    clear hM6 hs6
    clear hL
    go_wp2_with fail
    go_ret
    exact ⟨rfl, by rw [HN.out]; exact hM7⟩
end Go.Proofs.YtjbdhnmkeaogcaaDoor
set_option linter.unusedVariables false
set_option linter.unusedSimpArgs false
namespace Lk
open Go Go.RowKit
theorem bad_all (kind : Int) (m : Nat) : ∀ (ls : List (List UInt8)) (i : Nat), badFrom kind m ls i = none → ∀ l ∈ ls, psz kind l.length = 0 ∧ l.length = m
  | [], _, _, _, h => by cases h
  | x :: r, i, hn, l, hl => by
    rw [badFrom] at hn
    split at hn
    · cases hn
    · rename_i hx
      rcases List.mem_cons.1 hl with rfl | h
      · exact ⟨Classical.byContradiction fun h => hx (.inl h), Classical.byContradiction fun h => hx (.inr h)⟩
      · exact bad_all kind m r (i + 1) hn l h
end Lk
namespace Go.Proofs.YtjbdhnmkeaogcaaDoor
open Go.RowKit Lk
set_option maxHeartbeats 1600000 in
set_option maxRecDepth 100000 in
theorem Join_arg (kind : Int) (vp : Value) (ls : List (List UInt8)) (w : World) (h : SlSl w vp ls) (hk : (kind ≠ 1 ∧ kind ≠ 2) ∨ ls.length < 2 ∨ 3 < ls.length) (hl : ls.length ≤ 1000) :
    Calls Tryd.prog 59 #[.int .i64 kind, vp] w fun e w' => e = .returned (.tuple #[.slice none 0 0, .iface 106 (.int .i64 1)]) ∧ w' = w := by
  obtain ⟨n, hn⟩ : ∃ n, ls.length = n := ⟨_, rfl⟩
  obtain ⟨vs, hsv, hvl, _⟩ := h
  obtain ⟨A, c, rfl, n1, n2, n3, n4⟩ := hsv
  rw [hvl, hn] at n2 ⊢
  rw [hn] at hk hl
  clear n1 n4 hvl hn
  by_cases h12 : kind ≠ 1 ∧ kind ≠ 2
  · have h1 : (kind != 1) = true := by simpa using h12.1
    have h2 : (kind != 2) = true := by simpa using h12.2
    clear h12 hk
    go_enter Tryd.func59, Tryd.ntmps59
    go_wp2
    go_ret2
    exact ⟨rfl, rfl⟩
  · have hk12 : kind = 1 ∨ kind = 2 := by omega
    have hkn : n < 2 ∨ 3 < n := hk.resolve_left h12
    clear hk h12
    by_cases hn2 : n < 2
    · have d1 : decide ((n : Int) < 2) = true := by simp; omega
      clear hkn hn2
      rcases hk12 with rfl | rfl
      all_goals
        go_enter Tryd.func59, Tryd.ntmps59
        go_wp2
        go_ret2
        exact ⟨rfl, rfl⟩
    · have d1 : decide ((n : Int) < 2) = false := by simp; omega
      have d2 : decide ((3 : Int) < (n : Int)) = true := by simp; omega
      clear hkn hn2
      rcases hk12 with rfl | rfl
      all_goals
        go_enter Tryd.func59, Tryd.ntmps59
        go_wp2
        go_ret2
        exact ⟨rfl, rfl⟩
set_option maxHeartbeats 6400000 in
set_option maxRecDepth 100000 in
theorem PartJoins_any (kind : Int) (vp : Value) (ls : List (List UInt8)) (w : World) (hE : Et w) (hwf : (Lit.int .i64 kind).wf = true) (h : SlSl w vp ls) :
    Calls Tryd.prog 23 #[.int .i64 kind, vp] w fun e w' => e = .returned (.bool true) ∧ Below w.heap.size w w' := by
  obtain ⟨N, hN⟩ : ∃ N, w.heap.size = N := ⟨_, rfl⟩
  obtain ⟨n, hn⟩ : ∃ n, ls.length = n := ⟨_, rfl⟩
  have HN := Lib.hid hN
  have EL := Lib.hid hn
  have HE := Lib.hid hE
  have HS := Lib.hid h
  obtain ⟨vs, hsv, hvl, hvs⟩ := h
  obtain ⟨A, c, rfl, n1, n2, n3, n4⟩ := hsv
  rw [hvl, hn] at n2 ⊢
  rw [hvl, hn] at HS
  have hAW := Lib.hid (awake09 w hE)
  clear hE hwf n1
  by_cases hl6 : n ≤ 6
  rotate_left
  · have d6 : decide ((6 : Int) < (n : Int)) = true := by simp; omega
    clear hl6 n4 hvs hn hN
    go_enter Tryd.func23, Tryd.ntmps23
    go_wp2_with fail
    refine hAW.out.mono ?_
    rintro e w1 ⟨rfl, hL1⟩
    have hA2 := Lib.hid (awake09 w1 (HE.out.below hL1))
    go_wp2_with fail
    refine hA2.out.mono ?_
    rintro e w2 ⟨rfl, hL2⟩
    go_wp2_with fail
    go_ret
    exact ⟨rfl, below_more hL1 hL2 hL1.size⟩
  have d6 : decide ((6 : Int) < (n : Int)) = false := by simp; omega
  -- the parts
  have hp : ∀ k, k < n → ∃ g o A2 c2, A = some ⟨g, o, none⟩ ∧ (∀ wq, Below w.heap.size w wq → wq.cell? ⟨g, o + k, none⟩ = some (.slice A2 (gl ls k).length c2)) ∧ (gl ls k).length ≤ c2 ∧ c2 ≤ maxLen := by
    intro k hk
    obtain ⟨g, o, rfl, hr⟩ := n4 (by omega)
    obtain ⟨u, hu, A2, c2, rfl, u1, u2, u3, u4⟩ := hvs k (gl ls k) (gl_get ls k (by omega))
    have c1 := hr k _ hu
    exact ⟨g, o, A2, c2, rfl, fun wq hq => cell_below c1 hq (block_of_cell c1), u2, u3⟩
  have HP := Lib.hid hp
  clear hp n4 hvs hn hN
  go_enter Tryd.func23, Tryd.ntmps23
  go_wp2_with fail
  refine hAW.out.mono ?_
  rintro e w1 ⟨rfl, hL1⟩
  have HL1 := Lib.hid hL1
  have hE1 := Lib.hid (HE.out.below hL1)
  clear hL1 hAW
  go_wp2_with fail
  go_loop [5] (fun i => ∃ k : Nat, k ≤ n ∧ i = .int .i64 k ∧ Hid (∀ j, j < k → (gl ls j).length ≤ 100)) (fun i => n - (intOf i).toNat)
  case atStart => exact ⟨0, by omega, rfl, Lib.hid (fun j h => absurd h (Nat.not_lt_zero j))⟩
  case round =>
    obtain ⟨k, hk, rfl, hS⟩ := hrel
    by_cases hlt : k < n
    · obtain ⟨g, o, A2, c2, rfl, hc, b1, b2⟩ := HP.out k hlt
      have cc := hc w1 HL1.out
      have HLT := Lib.hid hlt
      obtain ⟨q, hq⟩ : ∃ q, (gl ls k).length = q := ⟨_, rfl⟩
      rw [hq] at cc b1
      have EQ := Lib.hid hq
      clear hc hq
      by_cases hq1 : q ≤ 100
      · have dq : decide ((100 : Int) < (q : Int)) = false := by simp; omega
        go_wp2
        go_round
        case rel => exact ⟨k + 1, HLT.out, by go_num, Lib.hid (fun j hj => (Nat.lt_or_ge j k).elim (fun h => hS.out j h) (fun h => (show j = k by omega) ▸ (by rw [EQ.out]; exact hq1)))⟩
        case measure => have := HLT.out; simp [intOf]; omega
      · have dq : decide ((100 : Int) < (q : Int)) = true := by simp; omega
        go_wp2
        go_ret
        exact ⟨rfl, HL1.out⟩
    · have HKN := Lib.hid (show k = n by omega)
      have HLN := Lib.hid (fun j (hj : j < n) => hS.out j (by rw [HKN.out]; exact hj))
      have HLA := Lib.hid (show ∀ j, (gl ls j).length ≤ 1000 from fun j => by
        rcases Nat.lt_or_ge j n with h | h
        · have := HLN.out j h; omega
        · have : gl ls j = [] := by
            unfold gl; rw [List.getD_eq_getElem?_getD, List.getElem?_eq_none (by rw [EL.out]; exact h)]; rfl
          rw [this]; simp)
      clear hS
      by_cases hok : (kind = 1 ∨ kind = 2) ∧ 2 ≤ n ∧ n ≤ 3
      rotate_left
      · have hja := Lib.hid (Join_arg kind _ ls w1 (HS.out.below HL1.out) (by rw [EL.out]; omega) (by rw [EL.out]; omega))
        have HOK := Lib.hid hok
        clear hok
        go_wp2_with fail
        clear hlt
        refine hja.out.mono ?_
        rintro e w1 ⟨rfl, rfl⟩
        have hcd := Lib.hid (Code_any [] 1 (.iface 106 (.int .i64 1)) w1 hE1.out rfl)
        by_cases h1 : kind = 1
        · subst h1
          have hnn : n < 2 ∨ 3 < n := by have := HOK.out; omega
          by_cases hn2 : n < 2
          · have d1 : decide ((n : Int) < 2) = true := by simp; omega
            clear hnn hn2
            go_wp2_with (go_at_call 27; refine hcd.out.mono ?_; rintro e w2 ⟨rfl, hL2⟩)
            go_ret
            exact ⟨rfl, below_more HL1.out hL2 HL1.out.size⟩
          · have d1 : decide ((n : Int) < 2) = false := by simp; omega
            have d2 : decide ((3 : Int) < (n : Int)) = true := by simp; omega
            clear hnn hn2
            go_wp2_with (go_at_call 27; refine hcd.out.mono ?_; rintro e w2 ⟨rfl, hL2⟩)
            go_ret
            exact ⟨rfl, below_more HL1.out hL2 HL1.out.size⟩
        · by_cases h2 : kind = 2
          · subst h2
            have hnn : n < 2 ∨ 3 < n := by have := HOK.out; omega
            clear h1
            by_cases hn2 : n < 2
            · have d1 : decide ((n : Int) < 2) = true := by simp; omega
              clear hnn hn2
              go_wp2_with (go_at_call 27; refine hcd.out.mono ?_; rintro e w2 ⟨rfl, hL2⟩)
              go_ret
              exact ⟨rfl, below_more HL1.out hL2 HL1.out.size⟩
            · have d1 : decide ((n : Int) < 2) = false := by simp; omega
              have d2 : decide ((3 : Int) < (n : Int)) = true := by simp; omega
              clear hnn hn2
              go_wp2_with (go_at_call 27; refine hcd.out.mono ?_; rintro e w2 ⟨rfl, hL2⟩)
              go_ret
              exact ⟨rfl, below_more HL1.out hL2 HL1.out.size⟩
          · have k1 : (kind != 1) = true := by simpa using h1
            have k2 : (kind != 2) = true := by simpa using h2
            clear h1 h2
            go_wp2_with (go_at_call 27; refine hcd.out.mono ?_; rintro e w2 ⟨rfl, hL2⟩)
            go_ret
            exact ⟨rfl, below_more HL1.out hL2 HL1.out.size⟩
      · obtain ⟨hkk, hn2, hn3⟩ := hok
        have d1 : decide ((n : Int) < 2) = false := by simp; omega
        have d2 : decide ((3 : Int) < (n : Int)) = false := by simp; omega
        have HKK := Lib.hid hkk
        have hja := Lib.hid (Join_any kind _ ls w1 hkk (by rw [EL.out]; exact hn2) (by rw [EL.out]; exact hn3) (HS.out.below HL1.out) HLA.out)
        have k12 : (kind != 1) = false ∨ ((kind != 1) = true ∧ (kind != 2) = false) := by rcases hkk with rfl | rfl <;> simp
        obtain ⟨m, hm⟩ : ∃ m, (gl ls 0).length = m := ⟨_, rfl⟩
        have EM := Lib.hid hm
        clear hkk hm
        go_wp2_with fail
        clear hlt
        refine hja.out.mono ?_
        rintro e w2 ⟨v, u, rfl, hJ, hL2⟩
        have HJ := Lib.hid hJ
        have HL2 := Lib.hid (below_more HL1.out hL2 HL1.out.size)
        have hE2 := Lib.hid (hE1.out.below hL2)
        clear hJ hL2 hja
        obtain ⟨g, o, A0, c0, rfl, hc0, z1, z2⟩ := HP.out 0 (by omega)
        rw [Nat.add_zero, EM.out] at hc0
        rw [EM.out] at z1
        have cz := hc0 w2 HL2.out
        clear hc0
        rcases k12 with k1 | ⟨k1, k2⟩
        all_goals
          go_wp2_with fail
          go_loopw [8] (fun i wr => ∃ j : Nat, j ≤ n ∧ i = .int .i64 j ∧ Hid (pbad kind ls = badFrom kind m (ls.drop j) j) ∧ Drawn w2 wr) (fun i _ => n - (intOf i).toNat)
          case atStart => exact ⟨0, by omega, rfl, Lib.hid (by unfold pbad; rw [EM.out]; rfl), Drawn.refl _⟩
          case round =>
            obtain ⟨j, hj, rfl, hPB, hD⟩ := hrel
            by_cases hlt : j < n
            · obtain ⟨g', o', A2, c2, e1, hc, b1, b2⟩ := HP.out j hlt
              simp only [Option.some.injEq, Addr.mk.injEq] at e1
              obtain ⟨rfl, rfl, _⟩ := e1
              have cc : wr.cell? ⟨g, o + j, none⟩ = some (.slice A2 (gl ls j).length c2) := by obtain ⟨nq, rfl⟩ := hD; exact hc w2 HL2.out
              have cz' : wr.cell? ⟨g, o, none⟩ = some (.slice A0 m c0) := by obtain ⟨nq, rfl⟩ := hD; exact cz
              have HD := Lib.hid hD
              clear hD
              have HLT := Lib.hid hlt
              obtain ⟨q, hq⟩ : ∃ q, (gl ls j).length = q := ⟨_, rfl⟩
              rw [hq] at cc b1
              have EQ := Lib.hid hq
              have q1 : q ≤ 1000 := by rw [← hq]; exact HLA.out j
              have hsz := Lib.hid (fun w' => Sized_ref kind q w' (by omega))
              have hjn : (j : Int) < (n : Int) := by omega
              have hj0 : (0 : Int) ≤ (j : Int) := by omega
              have hn0 : (0 : Int) < (n : Int) := by omega
              clear hc hq hlt
              by_cases hz : psz kind q = 0
              · rw [hz] at hsz
                have HZ := Lib.hid hz
                clear hz
                by_cases hqm : q = m
                · have hne : ((q : Int) != (m : Int)) = false := by simp; omega
                  have HQM := Lib.hid hqm
                  clear hqm
                  go_wp2
                  go_quiet ((go_at_call 67; exact Calls.quiet_of_same (hsz.out _)))
                  go_wp2
                  go_roundw
                  case rel => exact ⟨j + 1, HLT.out, by go_num, Lib.hid (by rw [hPB.out]; exact bad_no kind m ls j (by rw [EL.out]; exact HLT.out) (by rw [EQ.out]; exact HZ.out) (by rw [EQ.out]; exact HQM.out)), HD.out.step _⟩
                  case measure => have := HLT.out; simp [intOf]; omega
                · have hne : ((q : Int) != (m : Int)) = true := by simp; omega
                  have HB := Lib.hid (show pbad kind ls = some j from by rw [hPB.out]; exact bad_yes kind m ls j (by rw [EL.out]; exact HLT.out) (.inr (by rw [EQ.out]; exact hqm)))
                  clear hqm
                  have hJ := HJ.out
                  unfold JoinR at hJ
                  rw [HB.out] at hJ
                  obtain ⟨rfl, hEr⟩ := hJ
                  have HER := Lib.hid hEr
                  clear hEr
                  go_wp2
                  go_quiet ((go_at_call 67; exact Calls.quiet_of_same (hsz.out _)))
                  have HDN := Lib.hid (HD.out.step nq).below0
                  go_wp2_with fail
                  refine (Code_any [(j : Int)] 2 u _ (hE2.out.below HDN.out) (ErV.below HER.out HDN.out)).mono ?_
                  rintro e w3 ⟨rfl, hL3⟩
                  have HL3 := Lib.hid (below_more HDN.out hL3 HDN.out.size)
                  clear hL3
                  go_wp2_with fail
                  refine (At_yes (j : Int) [] 2 u _ (hE2.out.below HL3.out) (ErV.below HER.out HL3.out)).mono ?_
                  rintro e w4 ⟨rfl, hL4⟩
                  have HL4 := Lib.hid (below_more HL3.out hL4 HL3.out.size)
                  clear hL4
                  go_wp2
                  go_ret
                  exact ⟨rfl, below_more HL2.out HL4.out HL2.out.size⟩
              · have hz2 : psz kind q = 2 := (psz_02 HKK.out q).resolve_left hz
                have HB := Lib.hid (show pbad kind ls = some j from by rw [hPB.out]; exact bad_yes kind m ls j (by rw [EL.out]; exact HLT.out) (.inl (by rw [EQ.out]; exact hz)))
                rw [hz2] at hsz
                clear hz hz2
                have hJ := HJ.out
                unfold JoinR at hJ
                rw [HB.out] at hJ
                obtain ⟨rfl, hEr⟩ := hJ
                have HER := Lib.hid hEr
                clear hEr
                go_wp2
                go_quiet ((go_at_call 67; exact Calls.quiet_of_same (hsz.out _)))
                have HDN := Lib.hid (HD.out.step nq).below0
                go_wp2_with fail
                refine (Code_any [(j : Int)] 2 u _ (hE2.out.below HDN.out) (ErV.below HER.out HDN.out)).mono ?_
                rintro e w3 ⟨rfl, hL3⟩
                have HL3 := Lib.hid (below_more HDN.out hL3 HDN.out.size)
                clear hL3
                go_wp2_with fail
                refine (At_yes (j : Int) [] 2 u _ (hE2.out.below HL3.out) (ErV.below HER.out HL3.out)).mono ?_
                rintro e w4 ⟨rfl, hL4⟩
                have HL4 := Lib.hid (below_more HL3.out hL4 HL3.out.size)
                clear hL4
                go_wp2
                go_ret
                exact ⟨rfl, below_more HL2.out HL4.out HL2.out.size⟩
            · have HNB := Lib.hid (show pbad kind ls = none from by rw [hPB.out]; exact bad_end kind m ls j (by rw [EL.out]; omega))
              have hJ := HJ.out
              unfold JoinR at hJ
              rw [HNB.out] at hJ
              obtain ⟨rfl, hO⟩ := hJ
              have HO := Lib.hid hO
              have hall := bad_all kind m ls 0 (by have := HNB.out; unfold pbad at this; rw [EM.out] at this; exact this)
              have hallk : ∀ k, k < ls.length → (gl ls k).length = m := fun k hk => (hall (gl ls k) (List.mem_of_getElem? (gl_get ls k hk))).2
              have HAK := Lib.hid hallk
              have hmm : m ≤ 1000 := by rw [← EM.out]; exact HLA.out 0
              have HXL := Lib.hid (show (pjoin kind ls).length ≤ 1000000 from by
                have hx := xorPre_len ls m hallk (by rw [EL.out]; omega) (ls.length - 1)
                rw [show ls.length - 1 + 1 = ls.length by rw [EL.out]; omega] at hx
                unfold pjoin; split <;> (try rw [podds_len]) <;> rw [hx] <;> omega)
              have HD := Lib.hid hD
              clear hO hall hallk hD hPB
              go_wp2_with fail
              refine (Join_ref kind _ ls m wr HKK.out (by rw [EL.out]; exact hn2) (by rw [EL.out]; exact hn3) (HS.out.below (below_more HL2.out HD.out.below0 HL2.out.size)) hmm HAK.out).mono ?_
              rintro e w3 ⟨v3, rfl, hO3, hL3⟩
              have HL3 := Lib.hid (below_more HD.out.below0 hL3 HD.out.below0.size)
              have HO3 := Lib.hid hO3
              clear hL3 hO3
              go_wp2_with fail
              refine (Same_any _ _ (pjoin kind ls) (pjoin kind ls) w3 (HO.out.under HL3.out).slB HO3.out.slB HXL.out).mono ?_
              rintro e w4 ⟨rfl, hD4⟩
              rw [beq_self_eq_true]
              go_wp2
              go_ret
              exact ⟨rfl, below_more HL2.out (below_more HL3.out hD4.below0 HL3.out.size) HL2.out.size⟩
end Go.Proofs.YtjbdhnmkeaogcaaDoor
set_option linter.unusedVariables false
set_option linter.unusedSimpArgs false
namespace Lk
open Go Go.RowKit
/-- a slice of whole numbers as it is read -/
def IsRow (k : IntKind) (w : World) (a : Option Addr) (len cap : Nat) (zs : List Int) : Prop :=
  (a = none ∧ len = 0 ∧ cap = 0 ∧ zs = []) ∨
  ∃ x, a = some x ∧ len ≤ cap ∧ cap ≤ maxLen ∧ zs.length = cap ∧ (∀ i, i < zs.length → w.cell? (x.add i) = some (.int k (zs.getD i 0))) ∧ ∀ n ∈ zs, (Lit.int k n).wf = true
theorem u8_of_wf {n : Int} (h : (Lit.int .u8 n).wf = true) : n = bv (UInt8.ofNat n.toNat) := by
  obtain ⟨a, rfl⟩ := open_u8 h
  unfold bv
  simp
theorem slB_of_row {w : World} {a : Option Addr} {len cap : Nat} {zs : List Int} (h : IsRow .u8 w a len cap zs) : ∃ l : List UInt8, l.length = len ∧ SlB w (.slice a len cap) l := by
  rcases h with ⟨rfl, rfl, rfl, rfl⟩ | ⟨x, rfl, h1, h2, h3, h4, h5⟩
  · exact ⟨[], rfl, none, 0, rfl, fun _ => rfl, Nat.le_refl _, Nat.zero_le _, fun h => by omega⟩
  · have hl : ((zs.take len).map fun z => UInt8.ofNat z.toNat).length = len := by simp; omega
    refine ⟨(zs.take len).map fun z => UInt8.ofNat z.toNat, hl, some x, cap, by rw [hl], fun h => (by cases h), by rw [hl]; exact h1, h2, fun hc => ?_⟩
    have hx : x.spot = none := by
      have := h4 0 (by omega)
      have e : x.add 0 = x := by simp [Addr.add]
      rw [e] at this
      unfold World.cell? at this
      split at this
      · split at this
        · cases this
        · rename_i hs; simpa using hs
      · cases this
    obtain ⟨g, o, s⟩ := x
    cases hx
    refine ⟨g, o, rfl, fun k hk => ?_⟩
    rw [hl] at hk
    have hc := h4 k (by omega)
    have ea : (⟨g, o, none⟩ : Addr).add k = ⟨g, o + k, none⟩ := by unfold Addr.add; split <;> simp_all
    rw [ea] at hc
    rw [hc]
    have hm : zs.getD k 0 ∈ zs := by
      have : k < zs.length := by omega
      simp [this]
    have := u8_of_wf (h5 _ hm)
    have e : g8 ((zs.take len).map fun z => UInt8.ofNat z.toNat) k = UInt8.ofNat (zs.getD k 0).toNat := by
      unfold g8
      have : k < zs.length := by omega
      simp [List.getElem?_take, hk, this]
    rw [e, ← this]
section
variable {P : Program} {H : Type} {enc : TypeId × Value → H}
theorem open_slice_u8 {t e : TypeId} {W : World} {a : Option Addr} {len cap : Nat} {d : DataW H} {ps : List MemPlace} (ht : P.underlying t = some (.slice e)) (he : P.underlying e = some (.int .u8)) (hc : P.cellsOf e = 1)
    (h : DataW.Trod enc P W 0 (fun _ => true) true t (.slice a len cap) d ps) : ∃ l : List UInt8, l.length = len ∧ SlB W (.slice a len cap) l := by
  obtain ⟨zs, hz⟩ : ∃ zs, IsRow .u8 W a len cap zs := by
    obtain ⟨fuel, hf⟩ := h
    rcases Go.ChangeShapes.open_ints ht he hc hf with ⟨hcs, _⟩ | ⟨x, l, c, zs, hcs, _, hl, hm, hz, _, hcell, hwz⟩
    · simp [Value.cells] at hcs
      obtain ⟨rfl, rfl, rfl⟩ := hcs
      exact ⟨[], .inl ⟨rfl, rfl, rfl, rfl⟩⟩
    · simp [Value.cells] at hcs
      obtain ⟨rfl, rfl, rfl⟩ := hcs
      exact ⟨zs, .inr ⟨_, rfl, hl, hm, by simpa using hz, hcell, hwz⟩⟩
  exact slB_of_row hz
/-- an array of bytes -/
theorem open_arr_u8 {t e n : Nat} {W : World} {r : Reach} {base : Nat} {v : Value} (ht : P.underlying t = some (.array n e)) (he : P.underlying e = some (.int .u8)) (hc : P.cellsOf t = n) (hct : P.cellTypes P.depth t = some (List.replicate n e)) (hn : 0 < n)
    (h : Value.okWide P W r base t v) : ∃ l : List UInt8, l.length = n ∧ v = .agg (Bs l) := by
  simp only [Value.okWide, ht] at h
  obtain ⟨cs, rfl, hsz, ts, hts, _, hcell⟩ := h
  rw [hct] at hts
  cases hts
  rw [hc] at hsz
  refine ⟨cs.toList.map fun v => match v with | .int _ z => UInt8.ofNat z.toNat | _ => 0, by simp [hsz], ?_⟩
  congr 1
  apply Array.ext
  · simp [Bs]
  · intro i h1 h2
    obtain ⟨u, hu, hok⟩ := hcell i cs[i] (by simp [h1])
    have hue : u = e := by
      rw [List.getElem?_replicate] at hu
      split at hu
      · cases hu; rfl
      · cases hu
    subst hue
    simp only [Cell.okWide, he] at hok
    simp only [Bs, List.map_map, List.getElem_toArray, List.getElem_map, Function.comp_apply, Array.getElem_toList]
    cases hv : cs[i] with
    | int k z =>
      rw [hv] at hok
      simp only [Cell.ok, he] at hok
      obtain ⟨rfl, hw⟩ := hok
      have hw' : (Lit.int .u8 z).wf = true := by
        unfold Lit.wf
        rw [Bool.and_eq_true]
        exact ⟨decide_eq_true hw.1, decide_eq_true hw.2⟩
      simp only [← u8_of_wf hw']
    | _ => rw [hv] at hok; simp [Cell.ok, he] at hok
end
end Lk
set_option linter.unusedVariables false
set_option linter.unusedSimpArgs false
namespace Lk
open Go Go.RowKit Go.ChangeShapes Go.WideShapes Go.Deep
theorem add_zero_a (x : Addr) : x.add 0 = x := by simp [Addr.add]
theorem add_plain (g o k : Nat) : (⟨g, o, none⟩ : Addr).add k = ⟨g, o + k, none⟩ := by unfold Addr.add; split <;> simp_all
section
variable {P : Program} {H : Type} {enc : TypeId × Value → H}
theorem slB_trod {t e : TypeId} {W : World} {fuel : Nat} {cs : List Value} {x : DataW H × List MemPlace} (ht : P.underlying t = some (.slice e)) (he : P.underlying e = some (.int .u8)) (hc : P.cellsOf e = 1)
    (hf : DataW.trod enc P W 0 (fun _ => true) true fuel t cs = some x) : ∃ v l, cs = [v] ∧ SlB W v l := by
  rcases Go.ChangeShapes.open_ints ht he hc hf with ⟨hcs, _⟩ | ⟨a, l, c, zs, hcs, _, hl, hm, hz, _, hcell, hwz⟩
  · exact ⟨_, [], hcs, slB_nil W⟩
  · obtain ⟨l', hs⟩ : ∃ l' : List UInt8, l'.length = l ∧ SlB W (.slice (some a) l c) l' := slB_of_row (.inr ⟨_, rfl, hl, hm, by simpa using hz, hcell, hwz⟩)
    exact ⟨_, l', hcs, hs.2⟩
theorem open_slsl {t e b : TypeId} {W : World} {a : Option Addr} {len cap : Nat} {d : DataW H} {ps : List MemPlace} (ht : P.underlying t = some (.slice e)) (he : P.underlying e = some (.slice b)) (hb : P.underlying b = some (.int .u8)) (hc : P.cellsOf b = 1) (hce : P.cellsOf e = 1)
    (h : DataW.Trod enc P W 0 (fun _ => true) true t (.slice a len cap) d ps) : ∃ ls : List (List UInt8), ls.length = len ∧ SlSl W (.slice a len cap) ls := by
  obtain ⟨fuel, hf⟩ := h
  rcases open_slice ht hf with ⟨hcs, _⟩ | ⟨x, l, c, m, n, D, Pl, hcs, _, hl, hm, hmm, _, hi⟩
  · simp [Value.cells] at hcs
    obtain ⟨rfl, rfl, rfl⟩ := hcs
    exact ⟨[], rfl, [], ⟨none, 0, rfl, fun _ => rfl, Nat.le_refl _, Nat.zero_le _, fun h => by omega⟩, rfl, fun k l h => by simp at h⟩
  · simp [Value.cells] at hcs
    obtain ⟨rfl, rfl, rfl⟩ := hcs
    have hmc : m = cap := by rw [hmm]; rfl
    subst hmc
    have hcellx : ∀ i, i < m → ∃ v l, W.cell? (x.add i) = some v ∧ SlB W v l := by
      intro i h
      obtain ⟨cs', h1, h2⟩ := hi i h
      obtain ⟨v, l, rfl, hs⟩ := slB_trod he hb hc h2
      rw [hce, Nat.mul_one] at h1
      obtain ⟨_, _, hat⟩ := World.cells?_some h1
      have := hat (i := 0) (by omega)
      rw [add_zero_a] at this
      exact ⟨v, l, this.trans rfl, hs⟩
    have hone : ∀ i, ∃ (v : Value) (l : List UInt8), i < m → W.cell? (x.add i) = some v ∧ SlB W v l := by
      intro i
      by_cases h : i < m
      · obtain ⟨v, l, h1, h2⟩ := hcellx i h
        exact ⟨v, l, fun _ => ⟨h1, h2⟩⟩
      · exact ⟨.nilIface, [], fun h' => absurd h' h⟩
    obtain ⟨f, hf⟩ := Classical.axiomOfChoice hone
    obtain ⟨g, hg⟩ := Classical.axiomOfChoice hf
    refine ⟨(List.range len).map g, by simp, (List.range len).map f, ?_, by simp, ?_⟩
    · refine ⟨some x, m, by simp, fun h => (by cases h), by simpa using hl, hm, fun hcp => ?_⟩
      have hx : x.spot = none := by
        obtain ⟨v, _, this, _⟩ := hcellx 0 hcp
        have e : x.add 0 = x := by simp [Addr.add]
        rw [e] at this
        unfold World.cell? at this
        split at this
        · split at this
          · cases this
          · rename_i hs; simpa using hs
        · cases this
      obtain ⟨gx, ox, s⟩ := x
      cases hx
      refine ⟨gx, ox, rfl, fun k u hk => ?_⟩
      have hkl : k < len := by
        have := (List.getElem?_eq_some_iff.1 hk).1
        simpa using this
      have hu : f k = u := by simpa [hkl] using hk
      rw [← hu]
      have := (hg k (by omega)).1
      rw [add_plain] at this
      exact this
    · intro k l hk
      have hkl : k < len := by
        have := (List.getElem?_eq_some_iff.1 hk).1
        simpa using this
      have hu : g k = l := by simpa [hkl] using hk
      rw [← hu]
      exact ⟨f k, by simp [hkl], (hg k (by omega)).2⟩
end
end Lk
set_option linter.unusedVariables false
namespace Go.Proofs.YtjbdhnmkeaogcaaDoor
open Go.ChangeShapes Go.WideShapes Go.RowKit
theorem ownKnobNone : ownKnob Tryd.prog.godebug = none := by kernel_rfl
theorem laidOutAll : laidOutB Tryd.prog = true := by kernel_rfl
theorem fct_laid : laidOutB Tryd.checked.prog = true := by kernel_rfl
theorem fct_maps : mapsRowed Tryd.checked.prog = true := by kernel_rfl
theorem fct_main : Tryd.pinned.checked.prog.mainIs = some (true, "8650a698aaa6e7940681561f98863e190d5ec889b7f6ab40edacde75e00aa3ea".toList) := by kernel_rfl
theorem fct_looks : true = Tryd.pinned.checked.prog.looks [] := by kernel_rfl
def laidList : List (String × DataW Unit) := [("errors.errorType", Rows.laid_errors_errorType)]
theorem et_g : Tryd.prog.globalNamed "errors.errorType" = some 0 := by kernel_rfl
theorem et_rt : (Tryd.prog.cutTypes.find? (·.1 == "internal/reflectlite.rtype")).map (·.2) = some 171 := by kernel_rfl
theorem et_row : ((List.range 242).filter fun t => Tryd.prog.rowNamed t [101, 114, 114, 111, 114]) = [29] := by kernel_rfl
theorem et_size : Tryd.prog.types.size = 242 := by kernel_rfl
theorem handle_of_laid {W : World} (h : laidMetH Tryd.prog laidList W) : Et W := by
  have h' : laidMet Tryd.prog [] W ∧ handlesMet Tryd.prog laidList W := h
  obtain ⟨name, u, ty, e1, e2, e3, e4, e5⟩ := h'.2 _ (List.mem_singleton.2 rfl)
  have en : name = [101, 114, 114, 111, 114] := (Option.some.inj e1).symm
  subst en
  obtain rfl := Option.some.inj (et_rt.symm.trans e2)
  have hm : ty ∈ (List.range 242).filter fun t => Tryd.prog.rowNamed t [101, 114, 114, 111, 114] := List.mem_filter.2 ⟨List.mem_range.2 (by rw [← et_size]; exact e3), e4⟩
  rw [et_row] at hm
  obtain rfl := List.mem_singleton.1 hm
  have hh : typeHandle Tryd.prog 29 = .pointer (some ⟨1, 29, none⟩) := by kernel_rfl
  rw [hh] at e5
  have := World.var?_cell et_g e5 0
  unfold Et hnd
  simpa using this
noncomputable def laidWorld (os : Os) : World :=
  let w0 := World.holding Tryd.prog os ⟨#[], #[], []⟩
  { w0 with heap := w0.heap.modify 0 fun
      | .cells _ t frozen => .cells #[.iface 171 (.agg #[.pointer (some ⟨1, 29, none⟩)])] t frozen
      | o => o }
theorem laidWorld_met (os : Os) (args : Array Value) : laidMetH Tryd.prog laidList ((laidWorld os).forCall (fun _ _ => 0) ⟨#[], args, []⟩).memory :=
  laidMetH_of_parts (laidMet_nil _ _) (by kernel_rfl)
end Go.Proofs.YtjbdhnmkeaogcaaDoor
namespace Go.Proofs.YtjbdhnmkeaogcaaDoor.partJoins
open Go.ChangeShapes Go.WideShapes Go.ChangeAt Go.RowKit Lk
open Go.ChangeMaps (open_string shut_string)
set_option linter.unusedVariables false
set_option linter.unusedSimpArgs false
set_option maxRecDepth 100000 in
theorem lifted (os : Os) (started : os.Started) (H : Type) (enc : TypeId × Value → H) :
    ReturnsInHanded {} Tryd.checked os 23 .any (fun w args => (Rows.partJoinsSpec.pre enc Tryd.prog Tryd.f23 [] false w args ∧ laidMetH Tryd.prog laidList w) ∧ sizedMet enc Tryd.prog Tryd.f23 (OpenSpec.ofChange Rows.partJoinsSpec) false w args)
      (Rows.partJoinsSpec.post enc Tryd.prog Tryd.f23 false true false false) := by
  refine returnsInHanded_of_change_and (C := Tryd.checked) (X := fun w _ => laidMetH Tryd.prog laidList w) (fun _ _ _ hh h => h.of_heap hh) ownKnobNone started (by kernel_rfl) Tryd.func23
    (ChangeSpec.witness_at (enc := enc) (C := Tryd.checked) (os := os) (X := fun w _ => laidMetH Tryd.prog laidList w) false (laidWorld os) #[.int .i64 0, .slice none 0 0] 8 rfl (by kernel_rfl) (by kernel_rfl) (by kernel_rfl) (by kernel_rfl) (by kernel_rfl) (laidWorld_met os _)) ?_
  intro W base args ds gs before hval0 hW _ _ hLd _
  have hval : ∀ (j : Nat) t v, Tryd.f23.params[j]? = some t → args[j]? = some v → Value.okWide Tryd.prog W .any base t v := hval0
  have hW' := hW
  obtain ⟨p, q, hA0, hV, rfl, hfz, hnd⟩ := hW
  have hA : DataW.TrodAll enc Tryd.prog W 0 (fun _ => true) true Tryd.f23.params.toList args.toList ds p := hA0
  have hEt : Et W := handle_of_laid hLd
  rw [Tryd.params23] at hA hval
  obtain ⟨v0, vs0, d0, ds0, p0, q0, hargs, rfl, rfl, h0, r0⟩ := trodAll_cons hA
  obtain ⟨v1, vs1, d1, ds1, p1, q1, rfl, rfl, rfl, h1, r1⟩ := trodAll_cons r0
  obtain ⟨rfl, rfl, rfl⟩ := trodAll_nil r1
  obtain rfl : args = #[v0, v1] := by cases args; simp_all
  obtain ⟨rfl, rfl⟩ := trodVars_none hV
  have k0 := h0
  have lt0 : ∀ x ∈ p0, x.block < W.heap.size := by obtain ⟨m, hm⟩ := k0; exact DataW.trod_lt m _ _ _ hm
  obtain ⟨a0, rfl, rfl, rfl, w0⟩ := open_int Tryd.underlying3 (hval 0 3 v0 rfl rfl) h0
  have k1 := h1
  have lt1 : ∀ x ∈ p1, x.block < W.heap.size := by obtain ⟨m, hm⟩ := k1; exact DataW.trod_lt m _ _ _ hm
  obtain ⟨a1, len1, cap1, rfl⟩ := okWide_slice Tryd.underlying99 (hval 1 99 v1 rfl rfl)
  obtain ⟨l1, hl1, s1⟩ := open_slsl Tryd.underlying99 Tryd.underlying22 Tryd.underlying5 (by kernel_rfl) (by kernel_rfl) h1
  clear hA0 hval0
  refine (PartJoins_any a0 _ l1 W hEt w0 s1).mono fun e W' ⟨he, bel⟩ => ?_
  subst he
  exact ⟨_, rfl, _, _, _, [], _, [], hW', trodAll_mk1 (shut_bool Tryd.underlying4 _), (trodAll_cons_mk (Below.trod laidOutAll (by kernel_rfl) (of_decide_eq_true (by kernel_rfl)) k0 bel lt0) (trodAll_cons_mk (Below.trod laidOutAll (by kernel_rfl) (of_decide_eq_true (by kernel_rfl)) k1 bel lt1) trodAll_mk0)), rfl, bel.frame _, fun h => by cases h⟩
set_option maxHeartbeats 8000000 in
theorem closed : joinedFacts Tryd.checked.prog 23 Tryd.f23 Rows.partJoinsSpec Rows.partJoinsRow = true := by
  unfold joinedFacts
  simp only [Bool.and_eq_true]
  repeat' apply And.intro
  all_goals first | with_reducible exact fct_laid | with_reducible exact fct_maps | as_aux_lemma => kernel_rfl
theorem named_f : Tryd.prog.funcNamed "lockbox/lockboxlaw09.PartJoins" = some 23 := by kernel_rfl
theorem over : Rows.PartJoinsSaid :=
  OpenClaim.holds_of_wide 23 Tryd.f23 rfl rfl rfl rfl rfl rfl rfl ⟨rfl, rfl, rfl, rfl, rfl⟩ rfl rfl rfl rfl rfl named_f Tryd.func23 closed
    (of_decide_eq_true (by kernel_rfl)) (by unfold Func.isWrapper; first | (rw [if_pos (by decide +kernel)]; kernel_rfl) | (rw [if_neg (by decide +kernel)]; exact ⟨rfl, rfl⟩))
    (fun os started H enc _ => lifted os started H enc)
theorem params_ok (j : Nat) (t : TypeId) (ht : Tryd.f23.params[j]? = some t) : Tryd.prog.wantsStandIn t = false := by
  rw [Tryd.params23] at ht
  have hm : t ∈ #[3, 99] := Array.mem_of_getElem? ht
  simp only [List.mem_toArray, List.mem_cons, List.not_mem_nil, or_false] at hm
  rcases hm with rfl | rfl
  · show Tryd.prog.wantsStandIn 3 = false
    kernel_rfl
  · show Tryd.prog.wantsStandIn 99 = false
    kernel_rfl
theorem wf_text : Rows.partJoinsRow.wfByText (OpenSpec.ofChange Rows.partJoinsSpec) = true := by kernel_rfl
theorem goes_no : false = Rows.partJoinsRow.goesBy Tryd.pinned.checked.prog := by kernel_rfl
theorem card_holds : Rows.PartJoinsCardSaid :=
  Claim7.holds_tied_plain_at .later [] [.handle] true (true, "8650a698aaa6e7940681561f98863e190d5ec889b7f6ab40edacde75e00aa3ea") true
    over (fun _ h => by cases h) wf_text (fun _ h => by cases h) partJoins_row_tie rfl ⟨rfl, rfl⟩ fct_main rfl
    (fun f fn hf hfn => by
      obtain rfl : f = 23 := Option.some.inj (named_f.symm.trans hf) |>.symm
      obtain rfl : fn = Tryd.f23 := (Option.some.inj (Tryd.func23.symm.trans hfn)).symm
      exact ⟨fct_looks, fun j t ht => params_ok j t ht⟩)
    goes_no
#print axioms card_holds
end Go.Proofs.YtjbdhnmkeaogcaaDoor.partJoins
namespace Go.Proofs.YtjbdhnmkeaogcaaDoor
/-- The card, under a short name, for the claim. -/
theorem partJoins_holds : Rows.PartJoinsCardSaid := partJoins.card_holds
end Go.Proofs.YtjbdhnmkeaogcaaDoor
