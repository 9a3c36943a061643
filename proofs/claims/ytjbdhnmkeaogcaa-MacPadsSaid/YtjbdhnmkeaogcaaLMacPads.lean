/- MacPads: a text that is filled up. -/
import Derived.Test.YtjbdhnmkeaogcaaAwk07
set_option linter.unusedVariables false
set_option linter.unusedSimpArgs false
namespace Go.Proofs.Ytjbdhnmkeaogcaa
open Go.RowKit Lk
set_option maxHeartbeats 1600000 in
set_option maxRecDepth 100000 in
theorem MacPads_any (vt : Value) (text : List UInt8) (n : UInt8) (w : World) (h : SlB w vt text) :
    Calls Try.prog 5 #[vt, .int .u8 (bv n)] w fun e w' => e = .returned (.bool true) ∧ Below w.heap.size w w' := by
  obtain ⟨N, hN⟩ : ∃ N, w.heap.size = N := ⟨_, rfl⟩
  have HN := Lib.hid hN
  have h0 := bv_ge n
  have h1 := bv_lt n
  obtain ⟨z, ez, hz⟩ : ∃ z : Nat, bv n = (z : Int) ∧ z < 256 := ⟨n.toNat, rfl, n.toNat_lt⟩
  rw [ez]
  have HT := Lib.hid (fun (w' : World) (hw' : Below N w w') => h.below (by rw [hN]; exact hw'))
  obtain ⟨A, c, rfl⟩ := h.form rfl
  obtain ⟨L, eL⟩ : ∃ L, text.length = L := ⟨_, rfl⟩
  have EL := Lib.hid eL
  rw [eL] at HT ⊢
  clear h ez h0 h1 eL
  by_cases hl : L ≤ 200
  · go_enter Try.func5, Try.ntmps5
    go_wp2_with fail
    obtain ⟨k, ek, hk1, hk2⟩ : ∃ k : Nat, (1 + (z : Int) % 64) = (k : Int) ∧ 0 < k ∧ k ≤ 64 := ⟨1 + z % 64, by push_cast; rfl, by omega, by omega⟩
    rw [ek]
    refine (awake07 w).mono ?_
    rintro e w1 ⟨rfl, hL1⟩
    rw [hN] at hL1
    have hs1 := hL1.size
    rw [hN] at hs1
    clear ek
    go_wp2_with fail
    refine (Pad_any _ text k w1 (HT.out w1 hL1) (by rw [EL.out]; omega) hk1 hk2).mono ?_
    rintro e w2 ⟨v2, rfl, hO2, hL2⟩
    obtain ⟨p, ep⟩ : ∃ p, ppad text k = p := ⟨_, rfl⟩
    have hM2 : Below N w w2 := below_more hL1 hL2 hs1
    have hm := ppad_mod text k hk1
    have hl2 := ppad_len text k
    have hz2 := pzeros_lt text.length k hk1
    have htk : p.take L = text := by rw [← ep]; unfold ppad; rw [← EL.out]; exact List.take_left ..
    have hp128 : g8 p L = 128 := by rw [← ep]; unfold ppad; rw [g8_right _ _ _ (by have := EL.out; omega), EL.out, Nat.sub_self]; rfl
    have hp0 : ∀ i, L < i → g8 p i = 0 := by
      intro i hi
      rw [← ep]; unfold ppad
      rw [g8_right _ _ _ (by have := EL.out; omega)]
      obtain ⟨j, hj⟩ : ∃ j, i - text.length = j + 1 := ⟨i - text.length - 1, by have := EL.out; omega⟩
      rw [hj]
      show g8 (List.replicate _ 0) j = 0
      exact g8_replicate _ _
    rw [ep] at hO2 hm hl2
    rw [EL.out] at hl2 hz2
    obtain ⟨T, eT⟩ : ∃ T, p.length = T := ⟨_, rfl⟩
    rw [eT] at hm hl2
    obtain ⟨g2, c2, rfl, hg2, hg2', _, _, hc2⟩ := hO2.form (by omega)
    rw [eT] at hc2 hO2 ⊢
    have t1 : (L : Int) < (T : Int) := by omega
    have t2 : (T : Int) - (L : Int) ≤ (k : Int) := by omega
    have t3 : ((T : Int) % (k : Int) != 0) = false := by
      have : ((T : Int) % (k : Int)) = ((T % k : Nat) : Int) := by simp
      rw [this, hm]; rfl
    have t4 : ¬ (k : Int) = 0 := by omega
    have d1 : decide (T ≤ L) = false := by simp; omega
    have d2 : decide ((k : Int) < (T : Int) - (L : Int)) = false := by simp; omega
    have t5 : (T : Int) ≤ (c2 : Int) := by omega
    have t6 : T ≤ 300 := by omega
    have t7 : (L : Int) ≤ (c2 : Int) := by omega
    have HO2 := Lib.hid hO2
    have HP0 := Lib.hid hp0
    have HTK := Lib.hid htk
    have ET := Lib.hid eT
    have HT2 := Lib.hid (HT.out w2 hM2)
    have cL : w2.cell? ⟨g2, L, none⟩ = some (.int .u8 128) := by
      have := hO2.cell L (by rw [eT]; omega)
      rw [hp128] at this
      exact this
    have HM2 := Lib.hid hM2
    clear hO2 hp0 htk eT hM2 hL2 hm hl2 hz2 hp128 ep hL1
    go_wp2_with fail
    refine (Same_any _ _ (p.take L) text w2 (HO2.out.slB.take (n := L) (by rw [ET.out]; omega)) HT2.out (by rw [List.length_take, ET.out]; omega)).mono ?_
    rintro e w3 ⟨rfl, hD⟩
    rw [HTK.out, beq_self_eq_true]
    have c3 : w3.cell? ⟨g2, L, none⟩ = some (.int .u8 128) := by obtain ⟨q, rfl⟩ := hD; exact cL
    have HO3 := Lib.hid (show Own w3 w1.heap.size (.slice (some ⟨g2, 0, none⟩) T c2) p by obtain ⟨q, rfl⟩ := hD; exact HO2.out.drewN q)
    have HM3 := Lib.hid (show Below N w w3 by obtain ⟨q, rfl⟩ := hD; exact ⟨HM2.out.os, HM2.out.tape, HM2.out.output, HM2.out.size, HM2.out.block⟩)
    clear cL hD HT2 HO2 HM2
    go_wp2_with fail
    go_loop [7] (fun i => ∃ j : Nat, L < j ∧ j ≤ T ∧ i = .int .i64 j) (fun i => T - (intOf i).toNat)
    case atStart => exact ⟨L + 1, by omega, by omega, by go_num⟩
    case round =>
      obtain ⟨j, hj1, hj2, rfl⟩ := hrel
      clear c3
      by_cases hlt : j < T
      · have cj : w3.cell? ⟨g2, j, none⟩ = some (.int .u8 0) := by
          have := HO3.out.cell j (by rw [ET.out]; omega)
          rw [HP0.out j hj1] at this
          exact this
        go_wp2
        go_round
        case rel => exact ⟨j + 1, by omega, by omega, by go_num⟩
        case measure => simp [intOf]; omega
      · go_wp2
        go_ret
        exact ⟨rfl, HM3.out⟩
  · go_enter Try.func5, Try.ntmps5
    go_wp2_with fail
    refine (awake07 w).mono ?_
    rintro e w1 ⟨rfl, hL1⟩
    go_wp2_with fail
    refine (awake07 w1).mono ?_
    rintro e w2 ⟨rfl, hL2⟩
    go_wp2_with fail
    go_ret
    exact ⟨rfl, below_more hL1 hL2 hL1.size⟩
end Go.Proofs.Ytjbdhnmkeaogcaa
