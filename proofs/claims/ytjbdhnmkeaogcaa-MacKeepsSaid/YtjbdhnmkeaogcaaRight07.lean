/- Layer 07: a key of a kind, of whatever bytes. -/
import Derived.Test.YtjbdhnmkeaogcaaRgt
set_option linter.unusedVariables false
set_option linter.unusedSimpArgs false
namespace Go.Proofs.Ytjbdhnmkeaogcaa
open Go.RowKit Lk
set_option maxHeartbeats 1600000 in
set_option maxRecDepth 100000 in
theorem right07 (kind : Int) (n : Nat) (hkn : (kind = 1 ∧ n = 16) ∨ (kind = 2 ∧ n = 24) ∨ (kind = 3 ∧ n = 4)) (vk : Value) (key : List UInt8) (w : World) (h : SlB w vk key) :
    Calls Try.prog 10 #[.int .i64 kind, vk] w fun e w' => ∃ v, e = .returned v ∧ Own w' w.heap.size v (pright key n) ∧ Below w.heap.size w w' := by
  obtain ⟨N, hN⟩ : ∃ N, w.heap.size = N := ⟨_, rfl⟩
  have HN := Lib.hid hN
  have HT := Lib.hid (fun (w' : World) (hw' : Below N w w') => h.below (by rw [hN]; exact hw'))
  obtain ⟨A, c, rfl, hA0, hc0, hc1, hr⟩ := id h
  obtain ⟨m, em⟩ : ∃ m, key.length = m := ⟨_, rfl⟩
  have EM := Lib.hid em
  rw [em] at HT hc0 ⊢
  have HR := Lib.hid (show 0 < m → ∃ g o, A = some ⟨g, o, none⟩ from fun hc => by
    obtain ⟨g, o, e, hrd⟩ := hr (by omega)
    exact ⟨g, o, e⟩)
  have hmx : m ≤ 9223372036854775807 := by unfold maxLen at hc1; omega
  clear h hr hA0 em hc0 hc1
  rcases hkn with ⟨rfl, rfl⟩ | ⟨rfl, rfl⟩ | ⟨rfl, rfl⟩
  · go_enter Try.func10, Try.ntmps10
    go_wp2_with fail
    generalize hw0 : w.alloc _ = w0
    have hM0 : Below N w w0 := by rw [← hw0]; exact below_none (Below.refl _ _) (by omega) (grown_alloc (grown_refl _ _) _)
    clear hw0
    go_loopw [6, 7] (fun o i wr => ∃ (k : Nat) (vo : Value), k ≤ 16 ∧ vo = o ∧ i = .int .i64 k ∧ Own wr N vo (pright key k) ∧ Below N w wr) (fun _ i _ => 16 - (intOf i).toNat)
    case atStart => exact ⟨0, _, by omega, rfl, rfl, own_nil _ _, hM0⟩
    case round =>
      clear hM0
      obtain ⟨k, o, hk, ho0, rfl, hO, hL⟩ := hrel
      subst ho0
      have HO := Lib.hid hO
      have HL := Lib.hid hL
      have hwsz := hL.size
      rw [HN.out] at hwsz
      by_cases hlt : k < 16
      · have HLT := Lib.hid hlt
        clear hO hL
        by_cases hm0 : m = 0
        · have m0 : ¬ (0 : Int) < (m : Int) := by omega
          have HM0 := Lib.hid hm0
          clear hm0
          go_wp2_with (at_builtin; refine append_b hu_sl hu_u8 rfl _ _ rfl N _ _ (by rfl) (HO.out.alloc _) _ [0] (by rfl) (one_slB wr 0) (by rw [pright_len]; show k + 1 ≤ _; omega) (by show N ≤ (wr.heap.push _).size; simp; omega) ?_; intro v2 w2 hO2 hG2; have HO2 := Lib.hid hO2; have HL2 := Lib.hid (show Below N w w2 from below_own (HL.out.alloc (by omega) _) (by show N ≤ (wr.heap.push _).size; simp; omega) hG2 (fun k hk => (HO.out.lt k hk).1)); clear hO2 hG2)
          go_roundw
          case rel =>
            refine ⟨k + 1, _, HLT.out, rfl, by go_num, ?_, HL2.out⟩
            rw [pright_succ, if_pos (EM.out.trans HM0.out)]
            exact HO2.out
          case measure => have : k < 16 := HLT.out; simp [intOf]; omega
        · obtain ⟨gk, ok, rfl⟩ := HR.out (by omega)
          have m0 : (0 : Int) < (m : Int) := by omega
          have m1 : ¬ (m : Int) = 0 := by omega
          obtain ⟨r, er, hr⟩ : ∃ r : Nat, (k : Int) % (m : Int) = (r : Int) ∧ r < m := ⟨k % m, by simp, Nat.mod_lt _ (by omega)⟩
          have HER := Lib.hid er
          have hri : (r : Int) < (m : Int) := by omega
          have HM0 := Lib.hid hm0
          clear hm0
          go_wp2_with (at_builtin; refine append_b hu_sl hu_u8 rfl _ _ rfl N _ _ (by rfl) (HO.out.alloc _) _ [0] (by rfl) (one_slB wr 0) (by rw [pright_len]; show k + 1 ≤ _; omega) (by show N ≤ (wr.heap.push _).size; simp; omega) ?_; intro v2 w2 hO2 hG2; have HL2 := Lib.hid (show Below N w w2 from below_own (HL.out.alloc (by omega) _) (by show N ≤ (wr.heap.push _).size; simp; omega) hG2 (fun k hk => (HO.out.lt k hk).1)); obtain ⟨g2, c2, rfl, hg2, hg2', _, hfr2, hc2⟩ := hO2.form (by simp); have hl2 : (pright key k ++ [0]).length = k + 1 := (by rw [List.length_append, pright_len]; rfl); rw [hl2] at hO2 hc2 ⊢; have HO2 := Lib.hid hO2; have HLN := Lib.hid hl2; have cr := (HT.out w2 HL2.out).cell r (by rw [EM.out]; exact hr); have c3 : w2.cell? ⟨g2, k, none⟩ = some (.int .u8 (bv 0)) := (by have := hO2.cell k (by rw [HLN.out]; omega); rw [g8_right _ _ _ (by rw [pright_len]; exact Nat.le_refl _), pright_len, Nat.sub_self] at this; exact this); have f3 := hfr2 k; clear hO2 hG2 hl2 hfr2)
          go_roundw
          case rel =>
            have hG3 : w2.grownBy (w2.setCell ⟨g2, k, none⟩ (.int .u8 (bv (g8 key r)))) (some g2) := grown_set (grown_refl _ _) _ _
            refine ⟨k + 1, _, HLT.out, rfl, by go_num, ?_, below_new HL2.out (by have := HL2.out.size; have := HN.out; omega) hG3 (by omega)⟩
            have hrn : r = k % m := by have := HER.out; omega
            rw [pright_succ, if_neg (by rw [EM.out]; exact HM0.out), EM.out, ← hrn]
            have hst := Own.stored (l := pright key k ++ [0]) (cap := c2) (g := g2) (base := N) (w := w2) (by rw [HLN.out]; exact HO2.out) k (g8 key r)
            have e : (pright key k ++ [0]).set k (g8 key r) = pright key k ++ [g8 key r] := by
              rw [List.set_append_right _ _ (by rw [pright_len]; exact Nat.le_refl _), pright_len, Nat.sub_self]; rfl
            rw [e, HLN.out] at hst
            exact hst
          case measure => have : k < 16 := HLT.out; simp [intOf]; omega
      · have hkn : k = 16 := by omega
        subst hkn
        clear hO hL
        go_wp2_with fail
        go_ret
        exact ⟨_, rfl, by rw [HN.out]; exact HO.out, by rw [HN.out]; exact HL.out⟩
  · go_enter Try.func10, Try.ntmps10
    go_wp2_with fail
    generalize hw0 : w.alloc _ = w0
    have hM0 : Below N w w0 := by rw [← hw0]; exact below_none (Below.refl _ _) (by omega) (grown_alloc (grown_refl _ _) _)
    clear hw0
    go_loopw [6, 7] (fun o i wr => ∃ (k : Nat) (vo : Value), k ≤ 24 ∧ vo = o ∧ i = .int .i64 k ∧ Own wr N vo (pright key k) ∧ Below N w wr) (fun _ i _ => 24 - (intOf i).toNat)
    case atStart => exact ⟨0, _, by omega, rfl, rfl, own_nil _ _, hM0⟩
    case round =>
      clear hM0
      obtain ⟨k, o, hk, ho0, rfl, hO, hL⟩ := hrel
      subst ho0
      have HO := Lib.hid hO
      have HL := Lib.hid hL
      have hwsz := hL.size
      rw [HN.out] at hwsz
      by_cases hlt : k < 24
      · have HLT := Lib.hid hlt
        clear hO hL
        by_cases hm0 : m = 0
        · have m0 : ¬ (0 : Int) < (m : Int) := by omega
          have HM0 := Lib.hid hm0
          clear hm0
          go_wp2_with (at_builtin; refine append_b hu_sl hu_u8 rfl _ _ rfl N _ _ (by rfl) (HO.out.alloc _) _ [0] (by rfl) (one_slB wr 0) (by rw [pright_len]; show k + 1 ≤ _; omega) (by show N ≤ (wr.heap.push _).size; simp; omega) ?_; intro v2 w2 hO2 hG2; have HO2 := Lib.hid hO2; have HL2 := Lib.hid (show Below N w w2 from below_own (HL.out.alloc (by omega) _) (by show N ≤ (wr.heap.push _).size; simp; omega) hG2 (fun k hk => (HO.out.lt k hk).1)); clear hO2 hG2)
          go_roundw
          case rel =>
            refine ⟨k + 1, _, HLT.out, rfl, by go_num, ?_, HL2.out⟩
            rw [pright_succ, if_pos (EM.out.trans HM0.out)]
            exact HO2.out
          case measure => have : k < 24 := HLT.out; simp [intOf]; omega
        · obtain ⟨gk, ok, rfl⟩ := HR.out (by omega)
          have m0 : (0 : Int) < (m : Int) := by omega
          have m1 : ¬ (m : Int) = 0 := by omega
          obtain ⟨r, er, hr⟩ : ∃ r : Nat, (k : Int) % (m : Int) = (r : Int) ∧ r < m := ⟨k % m, by simp, Nat.mod_lt _ (by omega)⟩
          have HER := Lib.hid er
          have hri : (r : Int) < (m : Int) := by omega
          have HM0 := Lib.hid hm0
          clear hm0
          go_wp2_with (at_builtin; refine append_b hu_sl hu_u8 rfl _ _ rfl N _ _ (by rfl) (HO.out.alloc _) _ [0] (by rfl) (one_slB wr 0) (by rw [pright_len]; show k + 1 ≤ _; omega) (by show N ≤ (wr.heap.push _).size; simp; omega) ?_; intro v2 w2 hO2 hG2; have HL2 := Lib.hid (show Below N w w2 from below_own (HL.out.alloc (by omega) _) (by show N ≤ (wr.heap.push _).size; simp; omega) hG2 (fun k hk => (HO.out.lt k hk).1)); obtain ⟨g2, c2, rfl, hg2, hg2', _, hfr2, hc2⟩ := hO2.form (by simp); have hl2 : (pright key k ++ [0]).length = k + 1 := (by rw [List.length_append, pright_len]; rfl); rw [hl2] at hO2 hc2 ⊢; have HO2 := Lib.hid hO2; have HLN := Lib.hid hl2; have cr := (HT.out w2 HL2.out).cell r (by rw [EM.out]; exact hr); have c3 : w2.cell? ⟨g2, k, none⟩ = some (.int .u8 (bv 0)) := (by have := hO2.cell k (by rw [HLN.out]; omega); rw [g8_right _ _ _ (by rw [pright_len]; exact Nat.le_refl _), pright_len, Nat.sub_self] at this; exact this); have f3 := hfr2 k; clear hO2 hG2 hl2 hfr2)
          go_roundw
          case rel =>
            have hG3 : w2.grownBy (w2.setCell ⟨g2, k, none⟩ (.int .u8 (bv (g8 key r)))) (some g2) := grown_set (grown_refl _ _) _ _
            refine ⟨k + 1, _, HLT.out, rfl, by go_num, ?_, below_new HL2.out (by have := HL2.out.size; have := HN.out; omega) hG3 (by omega)⟩
            have hrn : r = k % m := by have := HER.out; omega
            rw [pright_succ, if_neg (by rw [EM.out]; exact HM0.out), EM.out, ← hrn]
            have hst := Own.stored (l := pright key k ++ [0]) (cap := c2) (g := g2) (base := N) (w := w2) (by rw [HLN.out]; exact HO2.out) k (g8 key r)
            have e : (pright key k ++ [0]).set k (g8 key r) = pright key k ++ [g8 key r] := by
              rw [List.set_append_right _ _ (by rw [pright_len]; exact Nat.le_refl _), pright_len, Nat.sub_self]; rfl
            rw [e, HLN.out] at hst
            exact hst
          case measure => have : k < 24 := HLT.out; simp [intOf]; omega
      · have hkn : k = 24 := by omega
        subst hkn
        clear hO hL
        go_wp2_with fail
        go_ret
        exact ⟨_, rfl, by rw [HN.out]; exact HO.out, by rw [HN.out]; exact HL.out⟩
  · go_enter Try.func10, Try.ntmps10
    go_wp2_with fail
    generalize hw0 : w.alloc _ = w0
    have hM0 : Below N w w0 := by rw [← hw0]; exact below_none (Below.refl _ _) (by omega) (grown_alloc (grown_refl _ _) _)
    clear hw0
    go_loopw [6, 7] (fun o i wr => ∃ (k : Nat) (vo : Value), k ≤ 4 ∧ vo = o ∧ i = .int .i64 k ∧ Own wr N vo (pright key k) ∧ Below N w wr) (fun _ i _ => 4 - (intOf i).toNat)
    case atStart => exact ⟨0, _, by omega, rfl, rfl, own_nil _ _, hM0⟩
    case round =>
      clear hM0
      obtain ⟨k, o, hk, ho0, rfl, hO, hL⟩ := hrel
      subst ho0
      have HO := Lib.hid hO
      have HL := Lib.hid hL
      have hwsz := hL.size
      rw [HN.out] at hwsz
      by_cases hlt : k < 4
      · have HLT := Lib.hid hlt
        clear hO hL
        by_cases hm0 : m = 0
        · have m0 : ¬ (0 : Int) < (m : Int) := by omega
          have HM0 := Lib.hid hm0
          clear hm0
          go_wp2_with (at_builtin; refine append_b hu_sl hu_u8 rfl _ _ rfl N _ _ (by rfl) (HO.out.alloc _) _ [0] (by rfl) (one_slB wr 0) (by rw [pright_len]; show k + 1 ≤ _; omega) (by show N ≤ (wr.heap.push _).size; simp; omega) ?_; intro v2 w2 hO2 hG2; have HO2 := Lib.hid hO2; have HL2 := Lib.hid (show Below N w w2 from below_own (HL.out.alloc (by omega) _) (by show N ≤ (wr.heap.push _).size; simp; omega) hG2 (fun k hk => (HO.out.lt k hk).1)); clear hO2 hG2)
          go_roundw
          case rel =>
            refine ⟨k + 1, _, HLT.out, rfl, by go_num, ?_, HL2.out⟩
            rw [pright_succ, if_pos (EM.out.trans HM0.out)]
            exact HO2.out
          case measure => have : k < 4 := HLT.out; simp [intOf]; omega
        · obtain ⟨gk, ok, rfl⟩ := HR.out (by omega)
          have m0 : (0 : Int) < (m : Int) := by omega
          have m1 : ¬ (m : Int) = 0 := by omega
          obtain ⟨r, er, hr⟩ : ∃ r : Nat, (k : Int) % (m : Int) = (r : Int) ∧ r < m := ⟨k % m, by simp, Nat.mod_lt _ (by omega)⟩
          have HER := Lib.hid er
          have hri : (r : Int) < (m : Int) := by omega
          have HM0 := Lib.hid hm0
          clear hm0
          go_wp2_with (at_builtin; refine append_b hu_sl hu_u8 rfl _ _ rfl N _ _ (by rfl) (HO.out.alloc _) _ [0] (by rfl) (one_slB wr 0) (by rw [pright_len]; show k + 1 ≤ _; omega) (by show N ≤ (wr.heap.push _).size; simp; omega) ?_; intro v2 w2 hO2 hG2; have HL2 := Lib.hid (show Below N w w2 from below_own (HL.out.alloc (by omega) _) (by show N ≤ (wr.heap.push _).size; simp; omega) hG2 (fun k hk => (HO.out.lt k hk).1)); obtain ⟨g2, c2, rfl, hg2, hg2', _, hfr2, hc2⟩ := hO2.form (by simp); have hl2 : (pright key k ++ [0]).length = k + 1 := (by rw [List.length_append, pright_len]; rfl); rw [hl2] at hO2 hc2 ⊢; have HO2 := Lib.hid hO2; have HLN := Lib.hid hl2; have cr := (HT.out w2 HL2.out).cell r (by rw [EM.out]; exact hr); have c3 : w2.cell? ⟨g2, k, none⟩ = some (.int .u8 (bv 0)) := (by have := hO2.cell k (by rw [HLN.out]; omega); rw [g8_right _ _ _ (by rw [pright_len]; exact Nat.le_refl _), pright_len, Nat.sub_self] at this; exact this); have f3 := hfr2 k; clear hO2 hG2 hl2 hfr2)
          go_roundw
          case rel =>
            have hG3 : w2.grownBy (w2.setCell ⟨g2, k, none⟩ (.int .u8 (bv (g8 key r)))) (some g2) := grown_set (grown_refl _ _) _ _
            refine ⟨k + 1, _, HLT.out, rfl, by go_num, ?_, below_new HL2.out (by have := HL2.out.size; have := HN.out; omega) hG3 (by omega)⟩
            have hrn : r = k % m := by have := HER.out; omega
            rw [pright_succ, if_neg (by rw [EM.out]; exact HM0.out), EM.out, ← hrn]
            have hst := Own.stored (l := pright key k ++ [0]) (cap := c2) (g := g2) (base := N) (w := w2) (by rw [HLN.out]; exact HO2.out) k (g8 key r)
            have e : (pright key k ++ [0]).set k (g8 key r) = pright key k ++ [g8 key r] := by
              rw [List.set_append_right _ _ (by rw [pright_len]; exact Nat.le_refl _), pright_len, Nat.sub_self]; rfl
            rw [e, HLN.out] at hst
            exact hst
          case measure => have : k < 4 := HLT.out; simp [intOf]; omega
      · have hkn : k = 4 := by omega
        subst hkn
        clear hO hL
        go_wp2_with fail
        go_ret
        exact ⟨_, rfl, by rw [HN.out]; exact HO.out, by rw [HN.out]; exact HL.out⟩
end Go.Proofs.Ytjbdhnmkeaogcaa
