/- For every kind and every key the law PartValues of the layer of key parts returns true (the check value is the reference's, or it is told why there is none), and its arguments read as they did; the variable errors.errorType starts as the program lays it. -/
import Derived.Test.YtidgmokbkepcdaaGreatDoorKB7
import Derived.Test.YtidgmokbkepcdaaGreatDoorKR7
import Derived.Test.YtidgmokbkepcdaaGreatDoorKB0
import Derived.WalkKit
import Derived.ProofKit
import Derived.OpenShut
import Derived.ShutString
import Derived.ChangeOld
import Derived.SizedLaws
import Derived.ChangeSlices
import Derived.Test.YtidgmokbkepcdaaGreatDoorRows
import Derived.Test.YtidgmokbkepcdaaGreatDoorKB6
import Derived.ChangeSame
import Derived.ChangeVars
import Derived.JoinedOf
import Derived.RowKit
import Derived.RowKitTokens
import Derived.LaidLaws
import Derived.LaidHandle
import Derived.Stop.Joined
import Derived.SevenTiedAt
import Derived.Test.YtidgmokbkepcdaaGreatDoorCards
import Derived.Test.YtidgmokbkepcdaaGreatDoorTie
set_option linter.unusedVariables false
set_option linter.unusedSimpArgs false
namespace Go.Proofs.YtidgmokbkepcdaaGreatDoor
open Go.RowKit Lk
theorem pvalue_len (kind : Nat) (key : List UInt8) : (pvalue kind key).length = 3 := by
  unfold pvalue
  split
  · rw [List.length_take, ptriple_len]; rfl
  · rw [List.length_take, pcmac_len 1 _ _ (.inl rfl)]; rfl
set_option maxHeartbeats 3200000 in
set_option maxRecDepth 100000 in
theorem PV_long (kind : Int) (v : Value) (l : List UInt8) (w : World) (hE : Et w) (h : SlB w v l) (hl : ¬ l.length ≤ 100) : Calls Tryz.prog 11 #[.int .i64 kind, v] w fun e w' => e = .returned (.bool true) ∧ Below w.heap.size w w' := by
  obtain ⟨N, hN⟩ : ∃ N, w.heap.size = N := ⟨_, rfl⟩
  have HN := Lib.hid hN
  obtain ⟨L, hL⟩ : ∃ L, l.length = L := ⟨_, rfl⟩
  have EL := Lib.hid hL
  have HS := Lib.hid h
  have HE := Lib.hid hE
  obtain ⟨A, c, rfl, n1, n2, n3, n4⟩ := h
  rw [hL] at n2 HS ⊢
  clear n1 n4 hE
  rw [hL] at hl
  clear hL
  have hM0 : Below N w w := Below.refl _ _
  have hs0 : N ≤ w.heap.size := by omega
  have E_0 := Lib.hid (HE.out)
  have S_0 := Lib.hid (HS.out)
  go_enter Tryz.func11, Tryz.ntmps11
  go_wp2_with fail
  refine (awake09 w E_0.out).mono ?_
  rintro e w1 ⟨rfl, hL⟩
  have hM1 : Below N w w1 := below_more hM0 hL hs0
  have hs1 : N ≤ w1.heap.size := Nat.le_trans hs0 (hL).size
  have E_1 := Lib.hid (E_0.out.below hL)
  clear E_0
  have S_1 := Lib.hid (S_0.out.below hL)
  clear S_0
  clear hM0 hs0
  clear hL
  go_wp2_with fail
  refine (awake09 w1 E_1.out).mono ?_
  rintro e w2 ⟨rfl, hL⟩
  have hM2 : Below N w w2 := below_more hM1 hL hs1
  have hs2 : N ≤ w2.heap.size := Nat.le_trans hs1 (hL).size
  have E_2 := Lib.hid (E_1.out.below hL)
  clear E_1
  have S_2 := Lib.hid (S_1.out.below hL)
  clear S_1
  clear hM1 hs1
  clear hL
  go_wp2_with fail
  go_ret
  exact ⟨rfl, by rw [HN.out]; exact hM2⟩
set_option maxHeartbeats 3200000 in
set_option maxRecDepth 100000 in
theorem PV_bad (kind : Int) (v : Value) (l : List UInt8) (w : World) (hE : Et w) (h : SlB w v l) (hl : l.length ≤ 100) (hz : psz kind l.length ≠ 0) : Calls Tryz.prog 11 #[.int .i64 kind, v] w fun e w' => e = .returned (.bool true) ∧ Below w.heap.size w w' := by
  obtain ⟨N, hN⟩ : ∃ N, w.heap.size = N := ⟨_, rfl⟩
  have HN := Lib.hid hN
  obtain ⟨L, hL⟩ : ∃ L, l.length = L := ⟨_, rfl⟩
  have EL := Lib.hid hL
  have HS := Lib.hid h
  have HE := Lib.hid hE
  obtain ⟨A, c, rfl, n1, n2, n3, n4⟩ := h
  rw [hL] at n2 HS ⊢
  clear n1 n4 hE
  have HZN := Lib.hid hz
  rw [hL] at hl hz
  obtain ⟨z, ez⟩ : ∃ z, psz kind L = z := ⟨_, rfl⟩
  have HZ := Lib.hid ez
  rw [ez] at hz
  have hz1 : (z != 0) = true := by simpa using hz
  clear hL hz ez
  have hM0 : Below N w w := Below.refl _ _
  have hs0 : N ≤ w.heap.size := by omega
  have E_0 := Lib.hid (HE.out)
  have S_0 := Lib.hid (HS.out)
  go_enter Tryz.func11, Tryz.ntmps11
  go_wp2_with fail
  refine (awake09 w E_0.out).mono ?_
  rintro e w1 ⟨rfl, hL⟩
  have hM1 : Below N w w1 := below_more hM0 hL hs0
  have hs1 : N ≤ w1.heap.size := Nat.le_trans hs0 (hL).size
  have E_1 := Lib.hid (E_0.out.below hL)
  clear E_0
  have S_1 := Lib.hid (S_0.out.below hL)
  clear S_0
  clear hM0 hs0
  clear hL
  go_wp2_with fail
  refine (Value_bad kind _ l w1 S_1.out HZN.out (by rw [EL.out]; omega)).mono ?_
  rintro e w1 ⟨rfl, rfl⟩
  rw [EL.out, HZ.out]
  go_wp2_with fail
  refine (Sized_ref kind L w1 (by omega)).mono ?_
  rintro e w1 ⟨rfl, rfl⟩
  rw [HZ.out]
  go_wp2_with fail
  refine (Code_any [] z _ w1 E_1.out rfl).mono ?_
  rintro e w2 ⟨rfl, hL⟩
  have hM2 : Below N w w2 := below_more hM1 hL hs1
  have hs2 : N ≤ w2.heap.size := Nat.le_trans hs1 (hL).size
  have E_2 := Lib.hid (E_1.out.below hL)
  clear E_1
  have S_2 := Lib.hid (S_1.out.below hL)
  clear S_1
  clear hM1 hs1
  clear hL
  go_wp2_with fail
  go_ret
  exact ⟨rfl, by rw [HN.out]; exact hM2⟩
set_option maxHeartbeats 3200000 in
set_option maxRecDepth 100000 in
theorem PV_aes (kind : Int) (v : Value) (l : List UInt8) (w : World) (hE : Et w) (h : SlB w v l) (hl : l.length ≤ 100) (hz : psz 1 l.length = 0) : Calls Tryz.prog 11 #[.int .i64 (1 : Int), v] w fun e w' => e = .returned (.bool true) ∧ Below w.heap.size w w' := by
  obtain ⟨N, hN⟩ : ∃ N, w.heap.size = N := ⟨_, rfl⟩
  have HN := Lib.hid hN
  obtain ⟨L, hL⟩ : ∃ L, l.length = L := ⟨_, rfl⟩
  have EL := Lib.hid hL
  have HS := Lib.hid h
  have HE := Lib.hid hE
  obtain ⟨A, c, rfl, n1, n2, n3, n4⟩ := h
  rw [hL] at n2 HS ⊢
  clear n1 n4 hE
  have HZN := Lib.hid hz
  have HKL := Lib.hid (show l.length = 16 ∨ l.length = 24 ∨ l.length = 32 by
    unfold psz at hz
    rw [if_neg (by decide)] at hz
    split at hz
    · rename_i q; first | exact q | (rcases q with q | q | q <;> simp_all)
    · cases hz)
  rw [hL] at hl hz
  have HZ := Lib.hid hz
  have HVL := Lib.hid (pvalue_len 1 l)
  clear hL hz
  have hM0 : Below N w w := Below.refl _ _
  have hs0 : N ≤ w.heap.size := by omega
  have E_0 := Lib.hid (HE.out)
  have S_0 := Lib.hid (HS.out)
  go_enter Tryz.func11, Tryz.ntmps11
  go_wp2_with fail
  refine (awake09 w E_0.out).mono ?_
  rintro e w1 ⟨rfl, hL⟩
  have hM1 : Below N w w1 := below_more hM0 hL hs0
  have hs1 : N ≤ w1.heap.size := Nat.le_trans hs0 (hL).size
  have E_1 := Lib.hid (E_0.out.below hL)
  clear E_0
  have S_1 := Lib.hid (S_0.out.below hL)
  clear S_0
  clear hM0 hs0
  clear hL
  go_wp2_with fail
  refine (Value_aes _ l w1 S_1.out HZN.out).mono ?_
  rintro e w2 ⟨u, rfl, hO, hL⟩
  have hM2 : Below N w w2 := below_more hM1 hL hs1
  have hs2 : N ≤ w2.heap.size := Nat.le_trans hs1 (hL).size
  have E_2 := Lib.hid (E_1.out.below hL)
  clear E_1
  have S_2 := Lib.hid (S_1.out.below hL)
  clear S_1
  clear hM1 hs1
  have O_2 := Lib.hid (hO)
  clear hO hL
  go_wp2_with fail
  refine (Sized_ref 1 L w2 (by omega)).mono ?_
  rintro e w2 ⟨rfl, rfl⟩
  rw [HZ.out]
  go_wp2_with fail
  refine (rValue_1 _ l w2 S_2.out HKL.out).mono ?_
  rintro e w3 ⟨u2, rfl, hO, hL⟩
  have hM3 : Below N w w3 := below_more hM2 hL hs2
  have hs3 : N ≤ w3.heap.size := Nat.le_trans hs2 (hL).size
  have E_3 := Lib.hid (E_2.out.below hL)
  clear E_2
  have S_3 := Lib.hid (S_2.out.below hL)
  clear S_2
  have O_3 := Lib.hid (O_2.out.under hL)
  clear O_2
  clear hM2 hs2
  have P_3 := Lib.hid (hO)
  clear hO hL
  go_wp2_with fail
  refine (Same_any _ _ (pvalue 1 l) (pvalue 1 l) w3 O_3.out.slB P_3.out (by rw [HVL.out]; decide)).mono ?_
  rintro e w4 ⟨rfl, hD⟩
  rw [beq_self_eq_true]
  have hM4 : Below N w w4 := below_more hM3 hD.below0 hs3
  have hs4 : N ≤ w4.heap.size := Nat.le_trans hs3 (hD.below0).size
  have E_4 := Lib.hid (E_3.out.below hD.below0)
  clear E_3
  have S_4 := Lib.hid (S_3.out.below hD.below0)
  clear S_3
  have O_4 := Lib.hid (O_3.out.under hD.below0)
  clear O_3
  have P_4 := Lib.hid (P_3.out.below hD.below0)
  clear P_3
  clear hM3 hs3
  clear hD
  go_wp2_with fail
  go_ret
  exact ⟨rfl, by rw [HN.out]; exact hM4⟩
set_option maxHeartbeats 3200000 in
set_option maxRecDepth 100000 in
theorem PV_tdes (kind : Int) (v : Value) (l : List UInt8) (w : World) (hE : Et w) (h : SlB w v l) (hl : l.length ≤ 100) (hz : psz 2 l.length = 0) : Calls Tryz.prog 11 #[.int .i64 (2 : Int), v] w fun e w' => e = .returned (.bool true) ∧ Below w.heap.size w w' := by
  obtain ⟨N, hN⟩ : ∃ N, w.heap.size = N := ⟨_, rfl⟩
  have HN := Lib.hid hN
  obtain ⟨L, hL⟩ : ∃ L, l.length = L := ⟨_, rfl⟩
  have EL := Lib.hid hL
  have HS := Lib.hid h
  have HE := Lib.hid hE
  obtain ⟨A, c, rfl, n1, n2, n3, n4⟩ := h
  rw [hL] at n2 HS ⊢
  clear n1 n4 hE
  have HZN := Lib.hid hz
  have HKL := Lib.hid (show l.length = 16 ∨ l.length = 24 by
    unfold psz at hz
    rw [if_neg (by decide)] at hz
    split at hz
    · rename_i q; first | exact q | (rcases q with q | q | q <;> simp_all)
    · cases hz)
  rw [hL] at hl hz
  have HZ := Lib.hid hz
  have HVL := Lib.hid (pvalue_len 2 l)
  clear hL hz
  have hM0 : Below N w w := Below.refl _ _
  have hs0 : N ≤ w.heap.size := by omega
  have E_0 := Lib.hid (HE.out)
  have S_0 := Lib.hid (HS.out)
  go_enter Tryz.func11, Tryz.ntmps11
  go_wp2_with fail
  refine (awake09 w E_0.out).mono ?_
  rintro e w1 ⟨rfl, hL⟩
  have hM1 : Below N w w1 := below_more hM0 hL hs0
  have hs1 : N ≤ w1.heap.size := Nat.le_trans hs0 (hL).size
  have E_1 := Lib.hid (E_0.out.below hL)
  clear E_0
  have S_1 := Lib.hid (S_0.out.below hL)
  clear S_0
  clear hM0 hs0
  clear hL
  go_wp2_with fail
  refine (Value_tdes _ l w1 S_1.out HZN.out).mono ?_
  rintro e w2 ⟨u, rfl, hO, hL⟩
  have hM2 : Below N w w2 := below_more hM1 hL hs1
  have hs2 : N ≤ w2.heap.size := Nat.le_trans hs1 (hL).size
  have E_2 := Lib.hid (E_1.out.below hL)
  clear E_1
  have S_2 := Lib.hid (S_1.out.below hL)
  clear S_1
  clear hM1 hs1
  have O_2 := Lib.hid (hO)
  clear hO hL
  go_wp2_with fail
  refine (Sized_ref 2 L w2 (by omega)).mono ?_
  rintro e w2 ⟨rfl, rfl⟩
  rw [HZ.out]
  go_wp2_with fail
  refine (rValue_2 _ l w2 S_2.out HKL.out).mono ?_
  rintro e w3 ⟨u2, rfl, hO, hL⟩
  have hM3 : Below N w w3 := below_more hM2 hL hs2
  have hs3 : N ≤ w3.heap.size := Nat.le_trans hs2 (hL).size
  have E_3 := Lib.hid (E_2.out.below hL)
  clear E_2
  have S_3 := Lib.hid (S_2.out.below hL)
  clear S_2
  have O_3 := Lib.hid (O_2.out.under hL)
  clear O_2
  clear hM2 hs2
  have P_3 := Lib.hid (hO)
  clear hO hL
  go_wp2_with fail
  refine (Same_any _ _ (pvalue 2 l) (pvalue 2 l) w3 O_3.out.slB P_3.out (by rw [HVL.out]; decide)).mono ?_
  rintro e w4 ⟨rfl, hD⟩
  rw [beq_self_eq_true]
  have hM4 : Below N w w4 := below_more hM3 hD.below0 hs3
  have hs4 : N ≤ w4.heap.size := Nat.le_trans hs3 (hD.below0).size
  have E_4 := Lib.hid (E_3.out.below hD.below0)
  clear E_3
  have S_4 := Lib.hid (S_3.out.below hD.below0)
  clear S_3
  have O_4 := Lib.hid (O_3.out.under hD.below0)
  clear O_3
  have P_4 := Lib.hid (P_3.out.below hD.below0)
  clear P_3
  clear hM3 hs3
  clear hD
  go_wp2_with fail
  go_ret
  exact ⟨rfl, by rw [HN.out]; exact hM4⟩
theorem PartValues_any (kind : Int) (v : Value) (l : List UInt8) (w : World) (hE : Et w) (hwf : (Lit.int .i64 kind).wf = true) (h : SlB w v l) : Calls Tryz.prog 11 #[.int .i64 kind, v] w fun e w' => e = .returned (.bool true) ∧ Below w.heap.size w w' := by
  by_cases hl : l.length ≤ 100
  · by_cases hz : psz kind l.length = 0
    · by_cases h1 : kind = 1
      · subst h1; exact PV_aes 1 v l w hE h hl hz
      · by_cases h2 : kind = 2
        · subst h2; exact PV_tdes 2 v l w hE h hl hz
        · unfold psz at hz; rw [if_pos ⟨h1, h2⟩] at hz; cases hz
    · exact PV_bad kind v l w hE h hl hz
  · exact PV_long kind v l w hE h hl
end Go.Proofs.YtidgmokbkepcdaaGreatDoor
set_option linter.unusedVariables false
set_option linter.unusedSimpArgs false
namespace Lk
open Go Go.RowKit
/-- a slice of whole numbers as it is read -/
def IsRow (k : IntKind) (w : World) (a : Option Addr) (len cap : Nat) (zs : List Int) : Prop :=
  (a = none ∧ len = 0 ∧ cap = 0 ∧ zs = []) ∨
  ∃ x, a = some x ∧ len ≤ cap ∧ cap ≤ maxLen ∧ zs.length = cap ∧ (∀ i, i < zs.length → w.cell? (x.add i) = some (.int k (zs.getD i 0))) ∧ ∀ n ∈ zs, (Lit.int k n).wf = true
theorem u8_of_wf {n : Int} (h : (Lit.int .u8 n).wf = true) : n = bv (UInt8.ofNat n.toNat) := by
  obtain ⟨a, rfl⟩ := open_u8 h
  unfold bv
  simp
theorem slB_of_row {w : World} {a : Option Addr} {len cap : Nat} {zs : List Int} (h : IsRow .u8 w a len cap zs) : ∃ l : List UInt8, l.length = len ∧ SlB w (.slice a len cap) l := by
  rcases h with ⟨rfl, rfl, rfl, rfl⟩ | ⟨x, rfl, h1, h2, h3, h4, h5⟩
  · exact ⟨[], rfl, none, 0, rfl, fun _ => rfl, Nat.le_refl _, Nat.zero_le _, fun h => by omega⟩
  · have hl : ((zs.take len).map fun z => UInt8.ofNat z.toNat).length = len := by simp; omega
    refine ⟨(zs.take len).map fun z => UInt8.ofNat z.toNat, hl, some x, cap, by rw [hl], fun h => (by cases h), by rw [hl]; exact h1, h2, fun hc => ?_⟩
    have hx : x.spot = none := by
      have := h4 0 (by omega)
      have e : x.add 0 = x := by simp [Addr.add]
      rw [e] at this
      unfold World.cell? at this
      split at this
      · split at this
        · cases this
        · rename_i hs; simpa using hs
      · cases this
    obtain ⟨g, o, s⟩ := x
    cases hx
    refine ⟨g, o, rfl, fun k hk => ?_⟩
    rw [hl] at hk
    have hc := h4 k (by omega)
    have ea : (⟨g, o, none⟩ : Addr).add k = ⟨g, o + k, none⟩ := by unfold Addr.add; split <;> simp_all
    rw [ea] at hc
    rw [hc]
    have hm : zs.getD k 0 ∈ zs := by
      have : k < zs.length := by omega
      simp [this]
    have := u8_of_wf (h5 _ hm)
    have e : g8 ((zs.take len).map fun z => UInt8.ofNat z.toNat) k = UInt8.ofNat (zs.getD k 0).toNat := by
      unfold g8
      have : k < zs.length := by omega
      simp [List.getElem?_take, hk, this]
    rw [e, ← this]
section
variable {P : Program} {H : Type} {enc : TypeId × Value → H}
theorem open_slice_u8 {t e : TypeId} {W : World} {a : Option Addr} {len cap : Nat} {d : DataW H} {ps : List MemPlace} (ht : P.underlying t = some (.slice e)) (he : P.underlying e = some (.int .u8)) (hc : P.cellsOf e = 1)
    (h : DataW.Trod enc P W 0 (fun _ => true) true t (.slice a len cap) d ps) : ∃ l : List UInt8, l.length = len ∧ SlB W (.slice a len cap) l := by
  obtain ⟨zs, hz⟩ : ∃ zs, IsRow .u8 W a len cap zs := by
    obtain ⟨fuel, hf⟩ := h
    rcases Go.ChangeShapes.open_ints ht he hc hf with ⟨hcs, _⟩ | ⟨x, l, c, zs, hcs, _, hl, hm, hz, _, hcell, hwz⟩
    · simp [Value.cells] at hcs
      obtain ⟨rfl, rfl, rfl⟩ := hcs
      exact ⟨[], .inl ⟨rfl, rfl, rfl, rfl⟩⟩
    · simp [Value.cells] at hcs
      obtain ⟨rfl, rfl, rfl⟩ := hcs
      exact ⟨zs, .inr ⟨_, rfl, hl, hm, by simpa using hz, hcell, hwz⟩⟩
  exact slB_of_row hz
/-- an array of bytes -/
theorem open_arr_u8 {t e n : Nat} {W : World} {r : Reach} {base : Nat} {v : Value} (ht : P.underlying t = some (.array n e)) (he : P.underlying e = some (.int .u8)) (hc : P.cellsOf t = n) (hct : P.cellTypes P.depth t = some (List.replicate n e)) (hn : 0 < n)
    (h : Value.okWide P W r base t v) : ∃ l : List UInt8, l.length = n ∧ v = .agg (Bs l) := by
  simp only [Value.okWide, ht] at h
  obtain ⟨cs, rfl, hsz, ts, hts, _, hcell⟩ := h
  rw [hct] at hts
  cases hts
  rw [hc] at hsz
  refine ⟨cs.toList.map fun v => match v with | .int _ z => UInt8.ofNat z.toNat | _ => 0, by simp [hsz], ?_⟩
  congr 1
  apply Array.ext
  · simp [Bs]
  · intro i h1 h2
    obtain ⟨u, hu, hok⟩ := hcell i cs[i] (by simp [h1])
    have hue : u = e := by
      rw [List.getElem?_replicate] at hu
      split at hu
      · cases hu; rfl
      · cases hu
    subst hue
    simp only [Cell.okWide, he] at hok
    simp only [Bs, List.map_map, List.getElem_toArray, List.getElem_map, Function.comp_apply, Array.getElem_toList]
    cases hv : cs[i] with
    | int k z =>
      rw [hv] at hok
      simp only [Cell.ok, he] at hok
      obtain ⟨rfl, hw⟩ := hok
      have hw' : (Lit.int .u8 z).wf = true := by
        unfold Lit.wf
        rw [Bool.and_eq_true]
        exact ⟨decide_eq_true hw.1, decide_eq_true hw.2⟩
      simp only [← u8_of_wf hw']
    | _ => rw [hv] at hok; simp [Cell.ok, he] at hok
end
end Lk
set_option linter.unusedVariables false
namespace Go.Proofs.YtidgmokbkepcdaaGreatDoor
open Go.ChangeShapes Go.WideShapes Go.RowKit
theorem ownKnobNone : ownKnob Tryz.prog.godebug = none := by kernel_rfl
theorem laidOutAll : laidOutB Tryz.prog = true := by kernel_rfl
theorem fct_laid : laidOutB Tryz.checked.prog = true := by kernel_rfl
theorem fct_maps : mapsRowed Tryz.checked.prog = true := by kernel_rfl
theorem fct_main : Tryz.pinned.checked.prog.mainIs = some (true, "5c7ead978bf2a56e6a46a70a7337108a1831cbd0c46db623aa94d95120778170".toList) := by kernel_rfl
theorem fct_looks : true = Tryz.pinned.checked.prog.looks [] := by kernel_rfl
def laidList : List (String × DataW Unit) := [("errors.errorType", Rows.laid_errors_errorType)]
theorem et_g : Tryz.prog.globalNamed "errors.errorType" = some 0 := by kernel_rfl
theorem et_rt : (Tryz.prog.cutTypes.find? (·.1 == "internal/reflectlite.rtype")).map (·.2) = some 156 := by kernel_rfl
theorem et_row : ((List.range 240).filter fun t => Tryz.prog.rowNamed t [101, 114, 114, 111, 114]) = [29] := by kernel_rfl
theorem et_size : Tryz.prog.types.size = 240 := by kernel_rfl
theorem handle_of_laid {W : World} (h : laidMetH Tryz.prog laidList W) : Et W := by
  have h' : laidMet Tryz.prog [] W ∧ handlesMet Tryz.prog laidList W := h
  obtain ⟨name, u, ty, e1, e2, e3, e4, e5⟩ := h'.2 _ (List.mem_singleton.2 rfl)
  have en : name = [101, 114, 114, 111, 114] := (Option.some.inj e1).symm
  subst en
  obtain rfl := Option.some.inj (et_rt.symm.trans e2)
  have hm : ty ∈ (List.range 240).filter fun t => Tryz.prog.rowNamed t [101, 114, 114, 111, 114] := List.mem_filter.2 ⟨List.mem_range.2 (by rw [← et_size]; exact e3), e4⟩
  rw [et_row] at hm
  obtain rfl := List.mem_singleton.1 hm
  have hh : typeHandle Tryz.prog 29 = .pointer (some ⟨1, 29, none⟩) := by kernel_rfl
  rw [hh] at e5
  have := World.var?_cell et_g e5 0
  unfold Et hnd
  simpa using this
noncomputable def laidWorld (os : Os) : World :=
  let w0 := World.holding Tryz.prog os ⟨#[], #[], []⟩
  { w0 with heap := w0.heap.modify 0 fun
      | .cells _ t frozen => .cells #[.iface 156 (.agg #[.pointer (some ⟨1, 29, none⟩)])] t frozen
      | o => o }
theorem laidWorld_met (os : Os) (args : Array Value) : laidMetH Tryz.prog laidList ((laidWorld os).forCall (fun _ _ => 0) ⟨#[], args, []⟩).memory :=
  laidMetH_of_parts (laidMet_nil _ _) (by kernel_rfl)
end Go.Proofs.YtidgmokbkepcdaaGreatDoor
namespace Go.Proofs.YtidgmokbkepcdaaGreatDoor.partValues
open Go.ChangeShapes Go.WideShapes Go.ChangeAt Go.RowKit Lk
open Go.ChangeMaps (open_string shut_string)
set_option linter.unusedVariables false
set_option linter.unusedSimpArgs false
set_option maxRecDepth 100000 in
theorem lifted (os : Os) (started : os.Started) (H : Type) (enc : TypeId × Value → H) :
    ReturnsInHanded {} Tryz.checked os 11 .any (fun w args => (Rows.partValuesSpec.pre enc Tryz.prog Tryz.f11 [] false w args ∧ laidMetH Tryz.prog laidList w) ∧ sizedMet enc Tryz.prog Tryz.f11 (OpenSpec.ofChange Rows.partValuesSpec) false w args)
      (Rows.partValuesSpec.post enc Tryz.prog Tryz.f11 false true false false) := by
  refine returnsInHanded_of_change_and (C := Tryz.checked) (X := fun w _ => laidMetH Tryz.prog laidList w) (fun _ _ _ hh h => h.of_heap hh) ownKnobNone started (by kernel_rfl) Tryz.func11
    (ChangeSpec.witness_at (enc := enc) (C := Tryz.checked) (os := os) (X := fun w _ => laidMetH Tryz.prog laidList w) false (laidWorld os) #[.int .i64 0, .slice none 0 0] 8 rfl (by kernel_rfl) (by kernel_rfl) (by kernel_rfl) (by kernel_rfl) (by kernel_rfl) (laidWorld_met os _)) ?_
  intro W base args ds gs before hval0 hW _ _ hLd _
  have hval : ∀ (j : Nat) t v, Tryz.f11.params[j]? = some t → args[j]? = some v → Value.okWide Tryz.prog W .any base t v := hval0
  have hW' := hW
  obtain ⟨p, q, hA0, hV, rfl, hfz, hnd⟩ := hW
  have hA : DataW.TrodAll enc Tryz.prog W 0 (fun _ => true) true Tryz.f11.params.toList args.toList ds p := hA0
  have hEt : Et W := handle_of_laid hLd
  rw [Tryz.params11] at hA hval
  obtain ⟨v0, vs0, d0, ds0, p0, q0, hargs, rfl, rfl, h0, r0⟩ := trodAll_cons hA
  obtain ⟨v1, vs1, d1, ds1, p1, q1, rfl, rfl, rfl, h1, r1⟩ := trodAll_cons r0
  obtain ⟨rfl, rfl, rfl⟩ := trodAll_nil r1
  obtain rfl : args = #[v0, v1] := by cases args; simp_all
  obtain ⟨rfl, rfl⟩ := trodVars_none hV
  have k0 := h0
  have lt0 : ∀ x ∈ p0, x.block < W.heap.size := by obtain ⟨m, hm⟩ := k0; exact DataW.trod_lt m _ _ _ hm
  obtain ⟨a0, rfl, rfl, rfl, w0⟩ := open_int Tryz.underlying3 (hval 0 3 v0 rfl rfl) h0
  have k1 := h1
  have lt1 : ∀ x ∈ p1, x.block < W.heap.size := by obtain ⟨m, hm⟩ := k1; exact DataW.trod_lt m _ _ _ hm
  obtain ⟨a1, len1, cap1, rfl⟩ := okWide_slice Tryz.underlying22 (hval 1 22 v1 rfl rfl)
  obtain ⟨l1, hl1, s1⟩ := open_slice_u8 Tryz.underlying22 Tryz.underlying5 (by kernel_rfl) h1
  clear hA0 hval0
  refine (PartValues_any a0 _ l1 W hEt w0 s1).mono fun e W' ⟨he, bel⟩ => ?_
  subst he
  exact ⟨_, rfl, _, _, _, [], _, [], hW', trodAll_mk1 (shut_bool Tryz.underlying4 _), (trodAll_cons_mk (Below.trod laidOutAll (by kernel_rfl) (of_decide_eq_true (by kernel_rfl)) k0 bel lt0) (trodAll_cons_mk (Below.trod laidOutAll (by kernel_rfl) (of_decide_eq_true (by kernel_rfl)) k1 bel lt1) trodAll_mk0)), rfl, bel.frame _, fun h => by cases h⟩
set_option maxHeartbeats 8000000 in
theorem closed : joinedFacts Tryz.checked.prog 11 Tryz.f11 Rows.partValuesSpec Rows.partValuesRow = true := by
  unfold joinedFacts
  simp only [Bool.and_eq_true]
  repeat' apply And.intro
  all_goals first | with_reducible exact fct_laid | with_reducible exact fct_maps | as_aux_lemma => kernel_rfl
theorem named_f : Tryz.prog.funcNamed "lockbox/lockboxlaw09.PartValues" = some 11 := by kernel_rfl
theorem over : Rows.PartValuesSaid :=
  OpenClaim.holds_of_wide 11 Tryz.f11 rfl rfl rfl rfl rfl rfl rfl ⟨rfl, rfl, rfl, rfl, rfl⟩ rfl rfl rfl rfl rfl named_f Tryz.func11 closed
    (of_decide_eq_true (by kernel_rfl)) (by unfold Func.isWrapper; first | (rw [if_pos (by decide +kernel)]; kernel_rfl) | (rw [if_neg (by decide +kernel)]; exact ⟨rfl, rfl⟩))
    (fun os started H enc _ => lifted os started H enc)
theorem params_ok (j : Nat) (t : TypeId) (ht : Tryz.f11.params[j]? = some t) : Tryz.prog.wantsStandIn t = false := by
  rw [Tryz.params11] at ht
  have hm : t ∈ #[3, 22] := Array.mem_of_getElem? ht
  simp only [List.mem_toArray, List.mem_cons, List.not_mem_nil, or_false] at hm
  rcases hm with rfl | rfl
  · show Tryz.prog.wantsStandIn 3 = false
    kernel_rfl
  · show Tryz.prog.wantsStandIn 22 = false
    kernel_rfl
theorem wf_text : Rows.partValuesRow.wfByText (OpenSpec.ofChange Rows.partValuesSpec) = true := by kernel_rfl
theorem goes_no : false = Rows.partValuesRow.goesBy Tryz.pinned.checked.prog := by kernel_rfl
theorem card_holds : Rows.PartValuesCardSaid :=
  Claim7.holds_tied_plain_at .later [] [.handle] true (true, "5c7ead978bf2a56e6a46a70a7337108a1831cbd0c46db623aa94d95120778170") true
    over (fun _ h => by cases h) wf_text (fun _ h => by cases h) partValues_row_tie rfl ⟨rfl, rfl⟩ fct_main rfl
    (fun f fn hf hfn => by
      obtain rfl : f = 11 := Option.some.inj (named_f.symm.trans hf) |>.symm
      obtain rfl : fn = Tryz.f11 := (Option.some.inj (Tryz.func11.symm.trans hfn)).symm
      exact ⟨fct_looks, fun j t ht => params_ok j t ht⟩)
    goes_no
#print axioms card_holds
end Go.Proofs.YtidgmokbkepcdaaGreatDoor.partValues
namespace Go.Proofs.YtidgmokbkepcdaaGreatDoor
/-- The card, under a short name, for the claim. -/
theorem partValues_holds : Rows.PartValuesCardSaid := partValues.card_holds
end Go.Proofs.YtidgmokbkepcdaaGreatDoor
