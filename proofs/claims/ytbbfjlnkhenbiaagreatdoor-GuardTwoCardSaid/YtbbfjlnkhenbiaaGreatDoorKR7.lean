/- The reference's bytes of bits, and a block doubled: bits moved up by one. -/
import Derived.Test.YtbbfjlnkhenbiaaGreatDoorKRH
import Derived.Test.YtbbfjlnkhenbiaaGreatDoorKB5
import Derived.Test.YtbbfjlnkhenbiaaGreatDoorKB6
import Derived.Test.YtbbfjlnkhenbiaaGreatDoorKR6
set_option linter.unusedVariables false
set_option linter.unusedSimpArgs false
namespace Lk
open Go Go.RowKit
theorem pbits_at (l : List UInt8) : ∀ i, i < 8 * l.length → (pbits l).getD i 0 = pbit (g8 l (i / 8)) (7 - i % 8) := by
  induction l with
  | nil => intro i h; simp at h
  | cons c r ih =>
    intro i h
    show (byteBits c ++ pbits r).getD i 0 = _
    rw [getD_app, byteBits_len]
    split
    · rename_i h8
      rw [Nat.div_eq_of_lt h8, Nat.mod_eq_of_lt h8]
      simp [byteBits, h8, g8]
    · rename_i h8
      simp only [List.length_cons] at h
      rw [ih (i - 8) (by omega), show i / 8 = (i - 8) / 8 + 1 by omega, show i % 8 = (i - 8) % 8 by omega]
      rfl
def shl0 (c : UInt8) (t : UInt8) : Bool := (List.range 7).all (fun s => pbit ((c <<< 1) ||| t) (s + 1) == pbit c s) && (pbit ((c <<< 1) ||| t) 0 == bv t)
set_option maxRecDepth 100000 in
theorem shl0_0 : allB (fun c => shl0 c 0) = true := by decide +kernel
set_option maxRecDepth 100000 in
theorem shl0_1 : allB (fun c => shl0 c 1) = true := by decide +kernel
set_option maxRecDepth 100000 in
theorem shr7_all : allB (fun d => (d >>> 7 == 0 || d >>> 7 == 1) && (bv (d >>> 7) == pbit d 7)) = true := by decide +kernel
theorem shr7 (d : UInt8) : (d >>> 7 = 0 ∨ d >>> 7 = 1) ∧ bv (d >>> 7) = pbit d 7 := by
  have := allB_spec shr7_all d
  simpa using this
theorem shl_bits (c d : UInt8) : (∀ s, s < 7 → pbit ((c <<< 1) ||| (d >>> 7)) (s + 1) = pbit c s) ∧ pbit ((c <<< 1) ||| (d >>> 7)) 0 = pbit d 7 := by
  have hs : shl0 c (d >>> 7) = true := by
    rcases (shr7 d).1 with h | h <;> rw [h]
    · exact allB_spec shl0_0 c
    · exact allB_spec shl0_1 c
  unfold shl0 at hs
  rw [Bool.and_eq_true, List.all_eq_true] at hs
  refine ⟨fun s h => ?_, ?_⟩
  · simpa using hs.1 s (List.mem_range.2 h)
  · rw [← (shr7 d).2]; simpa using hs.2
theorem pbits_dbl (b : List UInt8) (hb : 0 < b.length) : (pbits b).drop 1 ++ [0] = pbits (dblTo b b.length) := by
  apply ext_d
  · simp [pbits_len, dblTo_len]; omega
  · intro i hi
    have hi8 : i < 8 * b.length := by simp [pbits_len] at hi; omega
    have hiq : i / 8 < b.length := by omega
    rw [pbits_at _ _ (by rw [dblTo_len]; exact hi8), dblTo_at _ _ _ hiq, if_pos hiq, getD_app, List.length_drop, pbits_len]
    obtain ⟨h1, h2⟩ := shl_bits (g8 b (i / 8)) (g8 b (i / 8 + 1))
    by_cases hm : i % 8 < 7
    · rw [if_pos (by omega), getD_drop, pbits_at _ _ (by omega), show 7 - i % 8 = (6 - i % 8) + 1 by omega, h1 _ (by omega), show (1 + i) / 8 = i / 8 by omega, show 7 - (1 + i) % 8 = 6 - i % 8 by omega]
    · rw [show 7 - i % 8 = 0 by omega, h2]
      by_cases hl : i + 1 < 8 * b.length
      · rw [if_pos (by omega), getD_drop, pbits_at _ _ (by omega), show (1 + i) / 8 = i / 8 + 1 by omega, show 7 - (1 + i) % 8 = 7 by omega]
      · rw [if_neg (by omega), show i - (8 * b.length - 1) = 0 by omega]
        have : g8 b (i / 8 + 1) = 0 := by unfold g8; simp [List.getD_eq_getElem?_getD, List.getElem?_eq_none (show b.length ≤ i / 8 + 1 by omega)]
        rw [this]; rfl
set_option maxRecDepth 100000 in
theorem top_all : allB (fun c => (c &&& 0x80 != 0) == (pbit c 7 == 1)) = true := by decide +kernel
theorem top_bit (c : UInt8) : (c &&& 0x80 != 0) = (pbit c 7 == 1) := by
  have := allB_spec top_all c
  simpa using this
theorem pbits_0 (b : List UInt8) (hb : 0 < b.length) : (pbits b).getD 0 0 = pbit (g8 b 0) 7 := by
  rw [pbits_at b 0 (by omega)]
theorem pdbl_eq (b : List UInt8) : pdbl b = if pbit (g8 b 0) 7 = 1 then (dblTo b b.length).set (b.length - 1) (g8 (dblTo b b.length) (b.length - 1) ^^^ dturn b.length) else dblTo b b.length := by
  unfold pdbl
  dsimp only
  rw [top_bit]
  by_cases h : pbit (g8 b 0) 7 = 1
  · rw [if_pos h, if_pos (by simpa using h)]
  · rw [if_neg h, if_neg (by simpa using h)]
/-- a byte's first k bits summed up -/
def accP (c : UInt8) (k : Nat) : Nat := c.toNat / 2 ^ (8 - k)
theorem accP_zero (c : UInt8) : accP c 0 = 0 := Nat.div_eq_of_lt c.toNat_lt
theorem accP_succ (c : UInt8) (k : Nat) (h : k < 8) : 2 * (accP c k : Int) + pbit c (7 - k) = (accP c (k + 1) : Int) := by
  unfold accP pbit
  have e : c.toNat / 2 ^ (8 - k) = c.toNat / 2 ^ (7 - k) / 2 := by
    rw [Nat.div_div_eq_div_mul, ← Nat.pow_succ, show (7 - k).succ = 8 - k by omega]
  rw [e, show 8 - (k + 1) = 7 - k by omega]
  omega
theorem accP_lt (c : UInt8) (k : Nat) : accP c k < 256 := Nat.lt_of_le_of_lt (Nat.div_le_self _ _) c.toNat_lt
theorem accP_8 (c : UInt8) : (accP c 8 : Int) = bv c := by unfold accP bv; simp
theorem pbit_nat (c : UInt8) (i : Nat) : ∃ b : Nat, pbit c i = (b : Int) ∧ b < 2 := ⟨c.toNat / 2 ^ i % 2, rfl, Nat.mod_lt _ (by decide)⟩
end Lk
namespace Go.Proofs.YtbbfjlnkhenbiaaGreatDoor
open Go Go.RowKit Lk
set_option maxHeartbeats 1600000 in
set_option maxRecDepth 100000 in
theorem rBytes_pb (v : Value) (l : List UInt8) (w : World) (h : SlV w v (Is (pbits l))) (hl : l.length ≤ 1000) (hl0 : 0 < l.length) :
    Calls Tryz.prog 83 #[v] w fun e w' => ∃ v', e = .returned v' ∧ Own w' w.heap.size v' l ∧ Below w.heap.size w w' := by
  obtain ⟨N, hN⟩ : ∃ N, w.heap.size = N := ⟨_, rfl⟩
  have HN := Lib.hid hN
  obtain ⟨A, c, rfl, n1, n2, n3, n4⟩ := h
  rw [Is_len, pbits_len] at n2 ⊢
  obtain ⟨g, o, rfl, hr⟩ := n4 (by omega)
  obtain ⟨L, hL⟩ : ∃ L, l.length = L := ⟨_, rfl⟩
  have EL := Lib.hid hL
  have HR := Lib.hid (show ∀ j q wq, j < L → q < 8 → Below N w wq → wq.cell? ⟨g, o + (8 * j + q), none⟩ = some (.int .i64 (pbit (g8 l j) (7 - q))) from fun j q wq hj hq hB => by
    have hc := hr (8 * j + q) (.int .i64 ((pbits l).getD (8 * j + q) 0)) (Is_get _ _ (by rw [pbits_len]; omega))
    rw [pbits_at l _ (by omega), show (8 * j + q) / 8 = j by omega, show (8 * j + q) % 8 = q by omega] at hc
    exact cell_below hc hB (by rw [← hN]; exact block_of_cell hc))
  rw [hL] at n2 hl ⊢
  clear hN n1 n4 hr hL hl0
  have hL0 : Below N w w := Below.refl _ _
  have ho0 : Own w N (.slice none 0 0) (l.take 0) := own_nil _ _
  go_enter Tryz.func83, Tryz.ntmps83
  go_wp2
  go_loopw [3, 4] (fun ov i wr => ∃ j : Nat, j ≤ L ∧ i = .int .i64 ((8 * j : Nat) : Int) ∧ Own wr N ov (l.take j) ∧ Below N w wr) (fun _ i _ => 8 * L - (intOf i).toNat)
  case atStart => exact ⟨0, by omega, rfl, ho0, hL0⟩
  case round =>
    clear ho0 hL0
    obtain ⟨j, hj, rfl, hO, hB⟩ := hrel
    obtain ⟨i, ei⟩ : ∃ i, 8 * j = i := ⟨_, rfl⟩
    obtain ⟨M, eM⟩ : ∃ M, 8 * L = M := ⟨_, rfl⟩
    rw [ei]
    have HO := Lib.hid hO
    have HB := Lib.hid hB
    have EI := Lib.hid ei
    have EM := Lib.hid eM
    by_cases hlt : j < L
    · have hi8 : i + 8 ≤ M := by omega
      have HLT := Lib.hid hlt
      have hi8i : (i : Int) + 8 ≤ (M : Int) := by omega
      have him : M ≤ 8000 := by omega
      have hlen : (8 * (L : Int)) = (M : Int) := by omega
      obtain ⟨b, eb⟩ : ∃ b, g8 l j = b := ⟨_, rfl⟩
      have EB := Lib.hid eb
      clear hO hB ei eM eb
      go_wp2
      go_loop [5, 6] (fun a k => ∃ q : Nat, q ≤ 8 ∧ k = .int .i64 q ∧ a = .int .i64 (accP b q)) (fun _ k => 8 - (intOf k).toNat)
      case atStart => exact ⟨0, by omega, rfl, by rw [accP_zero]; rfl⟩
      case round =>
        obtain ⟨q, hq, rfl, rfl⟩ := hrel
        by_cases hq8 : q < 8
        · have HQ := Lib.hid hq8
          have cc := HR.out j q wr HLT.out hq8 HB.out
          rw [EI.out, EB.out] at cc
          have hacc := accP_succ b q hq8
          have hlt2 := accP_lt b q
          obtain ⟨t, ht, ht2⟩ := pbit_nat b (7 - q)
          rw [ht] at cc hacc
          obtain ⟨ac, hac⟩ : ∃ ac, accP b q = ac := ⟨_, rfl⟩
          rw [hac] at hacc hlt2 ⊢
          have HACC := Lib.hid hacc
          clear hacc hac ht hq
          go_wp2
          go_round
          case rel => exact ⟨q + 1, HQ.out, by go_num, by rw [← HACC.out]⟩
          case measure => have := HQ.out; simp [intOf]; omega
        · obtain rfl : q = 8 := by omega
          have hby := accP_8 b
          have HTK := Lib.hid (take_one l j (by rw [EL.out]; exact HLT.out))
          rw [EB.out] at HTK
          have hbl := accP_lt b 8
          obtain ⟨ac, hac⟩ : ∃ ac, accP b 8 = ac := ⟨_, rfl⟩
          rw [hac] at hby hbl ⊢
          have hby2 : (ac : Int) % 256 = bv b := by rw [← hby]; omega
          clear hac
          go_wp2_with (at_builtin; refine append_b hu_sl hu_u8 rfl _ _ rfl N _ _ (by rfl) (HO.out.alloc _) _ [b] (by rfl) (one_slB wr b) (by rw [List.length_take]; simp; omega) (by simp; have := HB.out.size; have := HN.out; omega) ?_; intro v2 w2 hO2 hG2; have HO2 := Lib.hid hO2; have HB2 := Lib.hid (show Below N w w2 from below_own (below_alloc HB.out (by have := HB.out.size; have := HN.out; omega) _) (by simp; have := HB.out.size; have := HN.out; omega) hG2 (fun q hq => (HO.out.lt q hq).1)); clear hO2 hG2)
          go_roundw
          case rel => exact ⟨j + 1, HLT.out, by have := EI.out; congr 1; omega, by rw [HTK.out]; exact HO2.out, HB2.out⟩
          case measure => have := EI.out; have := EM.out; have := HLT.out; simp [intOf]; omega
    · have HE := Lib.hid (show l.take j = l from List.take_of_length_le (by rw [EL.out]; omega))
      have hi8i : ¬ (i : Int) + 8 ≤ (M : Int) := by omega
      have him : i ≤ 8000 := by omega
      have hlen : (8 * (L : Int)) = (M : Int) := by omega
      clear hO hB ei eM
      go_wp2
      go_ret
      exact ⟨_, rfl, by rw [HN.out]; have := HO.out; rw [HE.out] at this; exact this, by rw [HN.out]; exact HB.out⟩
end Go.Proofs.YtbbfjlnkhenbiaaGreatDoor
set_option linter.unusedVariables false
set_option linter.unusedSimpArgs false
namespace Lk
theorem pbit_01 (c : UInt8) (i : Nat) : pbit c i = 0 ∨ pbit c i = 1 := by unfold pbit; omega
end Lk
namespace Go.Proofs.YtbbfjlnkhenbiaaGreatDoor
open Go Go.RowKit Lk
set_option maxHeartbeats 3200000 in
set_option maxRecDepth 100000 in
theorem rdouble_8 (vb : Value) (b : List UInt8) (w : World) (h : SlB w vb b) (hb : b.length = 8) :
    Calls Tryz.prog 58 #[vb] w fun e w' => ∃ v, e = .returned v ∧ Own w' w.heap.size v (pdbl b) ∧ Below w.heap.size w w' := by
  obtain ⟨N, hN⟩ : ∃ N, w.heap.size = N := ⟨_, rfl⟩
  have HN := Lib.hid hN
  have HS := Lib.hid h
  have HBL := Lib.hid hb
  have HD := Lib.hid (pbits_dbl b (by omega))
  have HPE := Lib.hid (pdbl_eq b)
  have HP0 := Lib.hid (pbits_0 b (by omega))
  have HPB := Lib.hid (show (pbits b).length = 64 by rw [pbits_len, hb])
  rw [hb] at HD HPE
  obtain ⟨A, c, rfl, _⟩ := h
  rw [hb] at HS ⊢
  obtain ⟨d, ed⟩ : ∃ d, dblTo b 8 = d := ⟨_, rfl⟩
  have HDL := Lib.hid (show d.length = 8 by rw [← ed, dblTo_len, hb])
  rw [ed] at HD HPE
  clear hb hN ed
  go_enter Tryz.func58, Tryz.ntmps58
  go_wp2_with (first
    | (go_at_call 82; refine (Bits_any _ b w HS.out (by rw [HBL.out]; decide)).mono ?_; rintro e w1 ⟨v1, rfl, hO1, hL1⟩; obtain ⟨g1, c1, e1, hg1, hg1s, hr1, hc1, hc1m⟩ := hO1.form (by rw [Is_len, HPB.out]; decide); rw [Is_len, HPB.out] at e1 hc1; subst e1; have HO1 := Lib.hid hO1; have HL1 := Lib.hid hL1; have hcn : ¬ c1 = 1 := (by omega); clear hO1 hL1 hr1)
    | (at_builtin; (with_reducible show wpList _ _ _ _ _ (World.alloc w1 _)); refine append_v hu_isl hi_int (by decide) (by decide) rfl rfl _ _ rfl w1.heap.size _ [] (by rfl) (ownV_lit0 w1 _ intt (Nat.le_refl _)) _ ((Is (pbits b)).drop 1) (by rfl) ((HO1.out.slV.alloc _).drop (k := 1) (by rw [Is_len, HPB.out]; decide)) (by rw [Is_drop]; exact Is_one _) (by simp [Is_len, HPB.out]) (by simp) ?_; intro v2 w2 hQ hG; rw [List.nil_append] at hQ; have HQ := Lib.hid hQ; have HL2 := Lib.hid (show Below w1.heap.size w1 w2 from below_own (below_alloc (Below.refl _ _) (Nat.le_refl _) _) (by simp) hG (fun q hq => ((ownV_lit0 w1 w1.heap.size intt (Nat.le_refl _)).lt q hq).1)); clear hQ hG)
    | (at_builtin; (with_reducible show wpList _ _ _ _ _ (World.alloc w2 _)); refine append_v hu_isl hi_int (by decide) (by decide) rfl rfl _ _ rfl w1.heap.size _ ((Is (pbits b)).drop 1) (by rfl) (HQ.out.alloc _) _ [.int .i64 0] (by rfl) (one_slV _ _ _) (Is_one [0]) (by simp [Is_len, HPB.out]) (by have := HL2.out.size; simp; omega) ?_; intro v3 w3 hQ3 hG3; have HQ3 := Lib.hid (show OwnV w3 w1.heap.size intt v3 (Is (pbits d)) from (by rw [← HD.out, Is_app, ← Is_drop]; exact hQ3)); have HL3 := Lib.hid (show Below w1.heap.size w1 w3 from below_own (below_alloc HL2.out HL2.out.size _) (by have := HL2.out.size; simp; omega) hG3 (fun q hq => (HQ.out.lt q hq).1)); clear hQ3 hG3)
    | (go_at_call 83; refine (rBytes_pb _ d w3 HQ3.out.slV (by rw [HDL.out]; decide) (by rw [HDL.out]; decide)).mono ?_; rintro e w4 ⟨v4, rfl, hO4, hL4⟩; obtain ⟨g4, c4, e4, hg4, hg4s, hr4, hf4, hc4⟩ := hO4.form (by rw [HDL.out]; decide); rw [HDL.out] at e4; subst e4; have HO4 := Lib.hid hO4; have HL4 := Lib.hid (below_more HL3.out hL4 HL3.out.size); clear hO4 hL4 hr4 hf4 hc4; have k0 := (HO1.out.under HL4.out).slV.cell 0 (.int .i64 ((pbits b).getD 0 0)) (Is_get _ 0 (by rw [HPB.out]; decide)); rw [HP0.out, Nat.zero_add] at k0; have k7 := HO4.out.cell 7 (by rw [HDL.out]; decide); have f7 := HO4.out.free 7; have HZ := Lib.hid (pbit_01 (g8 b 0) 7); obtain ⟨z, ez⟩ : ∃ z, pbit (g8 b 0) 7 = z := ⟨_, rfl⟩; rw [ez] at HPE HZ k0; have k5 : Go.bits .xor .u8 (bv (g8 d 7)) 27 = bv (g8 d 7 ^^^ 27) := bv_xor _ 27; clear ez; rcases HZ.out with hz | hz <;> subst hz))
  · have hp : pdbl b = d := by rw [HPE.out, if_neg (by decide)]
    have HP := Lib.hid hp
    clear hp k0 k5 k7 f7
    go_ret
    exact ⟨_, rfl, by rw [HP.out]; exact HO4.out.lower (Nat.le_trans HL1.out.size HL3.out.size), below_more HL1.out HL4.out HL1.out.size⟩
  · have hp : pdbl b = d.set 7 (g8 d 7 ^^^ 27) := by rw [HPE.out, if_pos (by trivial)]; rfl
    have HP := Lib.hid hp
    clear hp k0 k5 k7 f7
    go_ret
    have hG5 : w4.grownBy (w4.setCell ⟨g4, 7, none⟩ (.int .u8 (bv (g8 d 7 ^^^ 27)))) (some g4) := grown_set (grown_refl _ _) _ _
    have h1 := HO4.out
    rw [← HDL.out] at h1
    have h2 := h1.stored 7 (g8 d 7 ^^^ 27)
    rw [HDL.out] at h2
    have hg4b : w.heap.size ≤ g4 := by have := HL1.out.size; have := HL3.out.size; have := (HO4.out.lt g4 rfl).1; omega
    exact ⟨_, rfl, by rw [HP.out]; exact h2.lower (Nat.le_trans HL1.out.size HL3.out.size), below_new (below_more HL1.out HL4.out HL1.out.size) (Nat.le_trans HL1.out.size HL4.out.size) hG5 hg4b⟩
set_option maxHeartbeats 3200000 in
set_option maxRecDepth 100000 in
theorem rdouble_16 (vb : Value) (b : List UInt8) (w : World) (h : SlB w vb b) (hb : b.length = 16) :
    Calls Tryz.prog 58 #[vb] w fun e w' => ∃ v, e = .returned v ∧ Own w' w.heap.size v (pdbl b) ∧ Below w.heap.size w w' := by
  obtain ⟨N, hN⟩ : ∃ N, w.heap.size = N := ⟨_, rfl⟩
  have HN := Lib.hid hN
  have HS := Lib.hid h
  have HBL := Lib.hid hb
  have HD := Lib.hid (pbits_dbl b (by omega))
  have HPE := Lib.hid (pdbl_eq b)
  have HP0 := Lib.hid (pbits_0 b (by omega))
  have HPB := Lib.hid (show (pbits b).length = 128 by rw [pbits_len, hb])
  rw [hb] at HD HPE
  obtain ⟨A, c, rfl, _⟩ := h
  rw [hb] at HS ⊢
  obtain ⟨d, ed⟩ : ∃ d, dblTo b 16 = d := ⟨_, rfl⟩
  have HDL := Lib.hid (show d.length = 16 by rw [← ed, dblTo_len, hb])
  rw [ed] at HD HPE
  clear hb hN ed
  go_enter Tryz.func58, Tryz.ntmps58
  go_wp2_with (first
    | (go_at_call 82; refine (Bits_any _ b w HS.out (by rw [HBL.out]; decide)).mono ?_; rintro e w1 ⟨v1, rfl, hO1, hL1⟩; obtain ⟨g1, c1, e1, hg1, hg1s, hr1, hc1, hc1m⟩ := hO1.form (by rw [Is_len, HPB.out]; decide); rw [Is_len, HPB.out] at e1 hc1; subst e1; have HO1 := Lib.hid hO1; have HL1 := Lib.hid hL1; have hcn : ¬ c1 = 1 := (by omega); clear hO1 hL1 hr1)
    | (at_builtin; (with_reducible show wpList _ _ _ _ _ (World.alloc w1 _)); refine append_v hu_isl hi_int (by decide) (by decide) rfl rfl _ _ rfl w1.heap.size _ [] (by rfl) (ownV_lit0 w1 _ intt (Nat.le_refl _)) _ ((Is (pbits b)).drop 1) (by rfl) ((HO1.out.slV.alloc _).drop (k := 1) (by rw [Is_len, HPB.out]; decide)) (by rw [Is_drop]; exact Is_one _) (by simp [Is_len, HPB.out]) (by simp) ?_; intro v2 w2 hQ hG; rw [List.nil_append] at hQ; have HQ := Lib.hid hQ; have HL2 := Lib.hid (show Below w1.heap.size w1 w2 from below_own (below_alloc (Below.refl _ _) (Nat.le_refl _) _) (by simp) hG (fun q hq => ((ownV_lit0 w1 w1.heap.size intt (Nat.le_refl _)).lt q hq).1)); clear hQ hG)
    | (at_builtin; (with_reducible show wpList _ _ _ _ _ (World.alloc w2 _)); refine append_v hu_isl hi_int (by decide) (by decide) rfl rfl _ _ rfl w1.heap.size _ ((Is (pbits b)).drop 1) (by rfl) (HQ.out.alloc _) _ [.int .i64 0] (by rfl) (one_slV _ _ _) (Is_one [0]) (by simp [Is_len, HPB.out]) (by have := HL2.out.size; simp; omega) ?_; intro v3 w3 hQ3 hG3; have HQ3 := Lib.hid (show OwnV w3 w1.heap.size intt v3 (Is (pbits d)) from (by rw [← HD.out, Is_app, ← Is_drop]; exact hQ3)); have HL3 := Lib.hid (show Below w1.heap.size w1 w3 from below_own (below_alloc HL2.out HL2.out.size _) (by have := HL2.out.size; simp; omega) hG3 (fun q hq => (HQ.out.lt q hq).1)); clear hQ3 hG3)
    | (go_at_call 83; refine (rBytes_pb _ d w3 HQ3.out.slV (by rw [HDL.out]; decide) (by rw [HDL.out]; decide)).mono ?_; rintro e w4 ⟨v4, rfl, hO4, hL4⟩; obtain ⟨g4, c4, e4, hg4, hg4s, hr4, hf4, hc4⟩ := hO4.form (by rw [HDL.out]; decide); rw [HDL.out] at e4; subst e4; have HO4 := Lib.hid hO4; have HL4 := Lib.hid (below_more HL3.out hL4 HL3.out.size); clear hO4 hL4 hr4 hf4 hc4; have k0 := (HO1.out.under HL4.out).slV.cell 0 (.int .i64 ((pbits b).getD 0 0)) (Is_get _ 0 (by rw [HPB.out]; decide)); rw [HP0.out, Nat.zero_add] at k0; have k7 := HO4.out.cell 15 (by rw [HDL.out]; decide); have f7 := HO4.out.free 15; have HZ := Lib.hid (pbit_01 (g8 b 0) 7); obtain ⟨z, ez⟩ : ∃ z, pbit (g8 b 0) 7 = z := ⟨_, rfl⟩; rw [ez] at HPE HZ k0; have k5 : Go.bits .xor .u8 (bv (g8 d 15)) 135 = bv (g8 d 15 ^^^ 135) := bv_xor _ 135; clear ez; rcases HZ.out with hz | hz <;> subst hz))
  · have hp : pdbl b = d := by rw [HPE.out, if_neg (by decide)]
    have HP := Lib.hid hp
    clear hp k0 k5 k7 f7
    go_ret
    exact ⟨_, rfl, by rw [HP.out]; exact HO4.out.lower (Nat.le_trans HL1.out.size HL3.out.size), below_more HL1.out HL4.out HL1.out.size⟩
  · have hp : pdbl b = d.set 15 (g8 d 15 ^^^ 135) := by rw [HPE.out, if_pos (by trivial)]; rfl
    have HP := Lib.hid hp
    clear hp k0 k5 k7 f7
    go_ret
    have hG5 : w4.grownBy (w4.setCell ⟨g4, 15, none⟩ (.int .u8 (bv (g8 d 15 ^^^ 135)))) (some g4) := grown_set (grown_refl _ _) _ _
    have h1 := HO4.out
    rw [← HDL.out] at h1
    have h2 := h1.stored 15 (g8 d 15 ^^^ 135)
    rw [HDL.out] at h2
    have hg4b : w.heap.size ≤ g4 := by have := HL1.out.size; have := HL3.out.size; have := (HO4.out.lt g4 rfl).1; omega
    exact ⟨_, rfl, by rw [HP.out]; exact h2.lower (Nat.le_trans HL1.out.size HL3.out.size), below_new (below_more HL1.out HL4.out HL1.out.size) (Nat.le_trans HL1.out.size HL4.out.size) hG5 hg4b⟩
end Go.Proofs.YtbbfjlnkhenbiaaGreatDoor
set_option linter.unusedVariables false
set_option linter.unusedSimpArgs false
namespace Lk
open Go.Proofs.YtbbfjlnkhenbiaaGreatDoor
theorem pdo1 (key b : List UInt8) : pdo 1 key b false = pEnc key b := by
  unfold pdo
  rw [if_neg (by decide)]
  simp only [cond_false]
theorem pcmac1 (key text l full : List UInt8) (h : pEnc key (List.replicate 16 0) = l) (hf : pfull 16 text l = full) : pcmac 1 key text = pchain 1 key full (full.length / 16) := by
  unfold pcmac
  have e : psize 1 = 16 := by unfold psize; rw [if_neg (by decide)]
  simp only [e, pdo1, h, hf]
end Lk
namespace Go.Proofs.YtbbfjlnkhenbiaaGreatDoor
open Go Go.RowKit Lk
set_option maxHeartbeats 12800000 in
set_option maxRecDepth 100000 in
theorem rCmac1_full (vk vt : Value) (key text : List UInt8) (x y : Value) (w : World) (hx1 : ∃ A n c, x = .slice A n c) (hy1 : ∃ A n c, y = .slice A n c) (hk : SlB w vk key) (hn : key.length = 16 ∨ key.length = 24 ∨ key.length = 32) (ht : SlB w vt text) (htl : text.length ≤ 1000) (hp : needPad text.length 16 = false) :
    Calls Tryz.prog 25 #[.int .i64 1, vk, .agg #[x, y], vt] w fun e w' => ∃ v, e = .returned (.tuple #[.agg #[x, y], v, .bool true]) ∧ SlB w' v (pcmac 1 key text) ∧ (∀ q, v.ownBlock = some q → w.heap.size ≤ q) ∧ Below w.heap.size w w' := by
  obtain ⟨N, hN⟩ : ∃ N, w.heap.size = N := ⟨_, rfl⟩
  have HN := Lib.hid hN
  have HX1 := Lib.hid hx1
  have HY1 := Lib.hid hy1
  have HONE := Lib.hid (show ∀ u ∈ [x, y], u.oneCell' = true from by
    intro u hu
    rcases List.mem_cons.1 hu with rfl | hu
    · exact sl_one _ hx1
    · rcases List.mem_cons.1 hu with rfl | hu
      · exact sl_one _ hy1
      · cases hu)
  have HK := Lib.hid hk
  have HKN := Lib.hid hn
  have HTX := Lib.hid htl
  have HPD := Lib.hid hp
  obtain ⟨A, ct, rfl, _⟩ := id ht
  obtain ⟨T, eT⟩ : ∃ T, text.length = T := ⟨_, rfl⟩
  have ET := Lib.hid eT
  rw [eT] at ht htl hp ⊢
  have HT := Lib.hid ht
  obtain ⟨l, el⟩ : ∃ l, pEnc key (List.replicate 16 0) = l := ⟨_, rfl⟩
  have HLE := Lib.hid el
  have HLL := Lib.hid (show l.length = 16 by rw [← el]; exact pEnc_len _ _ (List.length_replicate ..))
  have hT16 : 16 ≤ T ∧ T % 16 = 0 := by
    have := whole_blocks text 16 (by decide) (by rw [ET.out]; exact hp)
    rw [ET.out] at this
    exact this
  have hc1 : ((T : Int) == 0) = false := by simp; omega
  have hc2 : (T : Int) % 16 = 0 := by omega
  have HFU0 := Lib.hid (show pfull 16 text l = turnEnd text (pdbl l) by unfold pfull; rw [ET.out, hp]; rfl)
  clear hx1 hy1 hk hn ht eT el hp
  go_enter Tryz.func25, Tryz.ntmps25
  go_wp2_with (first
    | ((with_reducible show wpList _ _ _ _ _ w); refine box_vb (w := w) rfl bkt _ rfl [x, y] (by rfl) ?_; intro w1 hB1 hG1 hs1; have HB1 := Lib.hid hB1; have HG1 := Lib.hid hG1; clear hB1 hG1)
    | ((with_reducible show wpList _ _ _ _ _ w1); refine alloc_vb (w := w1) rfl bkt rfl (.agg #[.slice none 0 0, .slice none 0 0]) [.slice none 0 0, .slice none 0 0] (fun _ => by kernel_rfl) rfl ?_; intro w2 hB2 hG2 hs2; have HB2 := Lib.hid hB2; have HG2 := Lib.hid hG2; clear hB2 hG2)
    | (go_at_call 14; refine (rSize_1 _).mono ?_; rintro e w2 ⟨rfl, rfl⟩))
  have e1 : w1.heap.size = N + 1 := by omega
  have HB := Lib.hid (show Bk w2 N bkt x y from by
    have := HB1.out
    rw [hN] at this
    exact this.old HG2.out (by simp))
  have HR := Lib.hid (show Row w2 (N + 1) bkt 2 from by
    have := HB2.out
    rw [e1] at this
    exact VB.row this rfl)
  have HM := Lib.hid (show Below N w w2 from below_none (below_none (Below.refl N w) (by omega) HG1.out) (by omega) HG2.out)
  have hz2 : N + 2 ≤ w2.heap.size := by omega
  clear HB1 HB2 HG1 HG2 hs1 hs2 e1 hN
  have hS : Bk w2.drew N bkt x y ∧ Below N w w2.drew := ⟨HB.out, ⟨HM.out.os, HM.out.tape, HM.out.output, HM.out.size, HM.out.block⟩⟩
  refine wp_region_held (S := fun w9 => Bk w9 N bkt x y ∧ Below N w w9) (by kernel_rfl) ?_
  show wpAnyH _ _ _ _ _ 13 _ _ w2.drew
  refine wpAnyH_take (i := 0) rfl (by kernel_rfl) (by kernel_rfl) (by kernel_rfl) (fun _ _ _ h => h) (yields_val (by kernel_rfl) (.int .i64 1) (fun w => by kernel_rfl)) hS ?_
  refine wpAnyH_take (i := 1) rfl (by kernel_rfl) (by kernel_rfl) (by kernel_rfl) (fun _ _ _ h => h) (yields_val (by kernel_rfl) (vk) (fun w => by kernel_rfl)) hS ?_
  refine wpAnyH_take (i := 2) rfl (by kernel_rfl) (by kernel_rfl) (by kernel_rfl) (fun _ _ _ h => h) (yields_bk (by kernel_rfl) _ rfl N bkt x y (by kernel_rfl) (fun w9 h9 => h9.1)) hS ?_
  refine wpAnyH_take (i := 3) rfl (by kernel_rfl) (by kernel_rfl) (by kernel_rfl) (fun _ _ _ h => h) (yields_val (by kernel_rfl) (.int .i64 16) (fun w => by kernel_rfl)) hS ?_
  refine wpAnyH_all (rs := [4]) (by kernel_rfl) (by decide) ?_
  intro i0 hi0
  obtain rfl : i0 = 4 := by simpa using hi0
  refine wpOp_run rfl (by kernel_rfl) (.slice (some ⟨w2.heap.size, 0, none⟩) 16 16) (w2.drew.alloc (.cells (Bs (List.replicate 16 0)) u8t)) (by kernel_rfl) ?_
  have hLa : Below w2.heap.size w2 (w2.drew.alloc (.cells (Bs (List.replicate 16 0)) u8t)) := below_alloc (below_drew w2) (Nat.le_refl _) _
  have hZr : Blk (w2.drew.alloc (.cells (Bs (List.replicate 16 0)) u8t)) w2.heap.size u8t (List.replicate 16 0) := heap_alloc_new w2.drew _
  have hza : w2.heap.size + 1 = (w2.drew.alloc (.cells (Bs (List.replicate 16 0)) u8t)).heap.size := by simp
  obtain ⟨gz, egz⟩ : ∃ g, w2.heap.size = g := ⟨_, rfl⟩
  rw [egz] at hLa hZr hza ⊢
  generalize w2.drew.alloc (.cells (Bs (List.replicate 16 0)) u8t) = wz at hLa hZr hza ⊢
  have HLA := Lib.hid (show Below w2.heap.size w2 wz by rw [egz]; exact hLa)
  clear hLa
  have hZs : SlB wz (.slice (some ⟨gz, 0, none⟩) 16 16) (List.replicate 16 0) := ⟨_, 16, by rw [List.length_replicate], fun h => (by cases h), by rw [List.length_replicate]; exact Nat.le_refl _, by decide, fun _ => ⟨gz, 0, rfl, fun k hk => by rw [Nat.zero_add]; exact hZr.cell k hk⟩⟩
  have hS : Bk wz N bkt x y ∧ Below N w wz := ⟨VB.next HB.out HLA.out, below_more HM.out HLA.out (by omega)⟩
  refine ⟨hS, ?_⟩
  refine wpAnyH_all (rs := [5]) (by kernel_rfl) (by decide) ?_
  intro i1 hi1
  obtain rfl : i1 = 5 := by simpa using hi1
  refine wpOp_enterE rfl (by kernel_rfl) 51 #[.int .i64 1, vk, .agg #[x, y], .slice (some ⟨gz, 0, none⟩) 16 16, .bool false] (fun v w' => ∃ vd, v = .tuple #[.agg #[x, y], vd, .bool true] ∧ SlB w' vd l ∧ (∀ q, vd.ownBlock = some q → wz.heap.size ≤ q) ∧ Below wz.heap.size wz w') (by kernel_rfl) ((rDo1_any vk _ key (List.replicate 16 0) x y wz HX1.out HY1.out (HK.out.below (by rw [HN.out]; exact hS.2)) HKN.out hZs (List.length_replicate ..)).mono fun e w' ⟨vd, h1, h2, h3, h4⟩ => ⟨_, h1, vd, rfl, by rw [← HLE.out]; exact h2, h3, h4⟩) ?_
  rintro vr wb ⟨vd, rfl, hDl, hDf, hLb⟩
  have hS : Bk wb N bkt x y ∧ Below N w wb := ⟨VB.next hS.1 hLb, below_more hS.2 hLb (by omega)⟩
  refine ⟨hS, ?_⟩
  refine wpAnyH_take (i := 6) rfl (by kernel_rfl) (by kernel_rfl) (by kernel_rfl) (fun _ _ _ h => h) (yields_val (by kernel_rfl) (.tuple #[.agg #[x, y], vd, .bool true]) (fun w => by kernel_rfl)) hS ?_
  refine wpAnyH_take (i := 7) rfl (by kernel_rfl) (by kernel_rfl) (by kernel_rfl) (fun _ _ _ h => h) (yields_val (by kernel_rfl) (.agg #[x, y]) (fun w => by kernel_rfl)) hS ?_
  refine wpAnyH_take (i := 8) rfl (by kernel_rfl) (by kernel_rfl) (by kernel_rfl) (fun _ _ _ h => h) (yields_val (by kernel_rfl) (vd) (fun w => by kernel_rfl)) hS ?_
  refine wpAnyH_take (i := 9) rfl (by kernel_rfl) (by kernel_rfl) (by kernel_rfl) (fun _ _ _ h => h) (yields_val (by kernel_rfl) (.bool true) (fun w => by kernel_rfl)) hS ?_
  refine wpAnyH_all (rs := [10]) (by kernel_rfl) (by decide) ?_
  intro i2 hi2
  obtain rfl : i2 = 10 := by simpa using hi2
  refine wpOp_storev rfl (by kernel_rfl) bkt _ _ rfl N bkt 2 [x, y] (by kernel_rfl) (by kernel_rfl) (VB.row hS.1 rfl) HONE.out rfl bkt_i ?_
  intro ws hBs hGs hss
  have hS : Bk ws N bkt x y ∧ Below N w ws := ⟨hBs, below_new hS.2 (by have := HLA.out.size; have := hLb.size; omega) hGs (Nat.le_refl _)⟩
  refine ⟨hS, ?_⟩
  refine wpAnyH_take (i := 11) rfl (by kernel_rfl) (by kernel_rfl) (by kernel_rfl) (fun _ _ _ h => h) (yields_val (by kernel_rfl) (vd) (fun w => by kernel_rfl)) hS ?_
  refine wpAnyH_take (i := 12) rfl (by kernel_rfl) (by kernel_rfl) (by kernel_rfl) (fun _ _ _ h => h) (yields_val (by kernel_rfl) (.bool true) (fun w => by kernel_rfl)) hS ?_
  refine wpAnyH_done (by kernel_rfl) ?_ _
  simp only [Act.put, List.getElem_toArray, List.getElem_cons_succ, List.getElem_cons_zero, List.setIfInBounds_toArray, List.set_cons_succ, List.set_cons_zero]
  obtain ⟨gl, cl, evd⟩ := hDl.form HLL.out
  subst evd
  have hDs := hDl.old hGs (.inr (fun ee => absurd (hDf N ee) (by omega)))
  have HD := Lib.hid hDs
  have HR2 := Lib.hid (show Row ws (N + 1) bkt 2 from ((HR.out.below HLA.out (by omega)).below hLb (by omega)).old hGs (by simp))
  have HB2 := Lib.hid hS.1
  have HM2 := Lib.hid hS.2
  have hz3 : N + 2 ≤ ws.heap.size := by have := hLb.size; omega
  clear hDl hDf hDs hBs hGs hss hS hLb HLA hZr hZs hza egz HB HR HM hz2
  obtain ⟨w3, ew3⟩ : ∃ w3 : World, w3 = ws := ⟨_, rfl⟩
  subst ew3
  go_wp2_with (first
    | (go_at_call 58; (with_reducible show Calls _ _ _ w3 _); refine (rdouble_16 _ l w3 HD.out HLL.out).mono ?_; rintro e w4 ⟨vs, rfl, hO4, hL4⟩; have HO4 := Lib.hid hO4; have HL4 := Lib.hid hL4; obtain ⟨gs, cs, rfl⟩ := hO4.slB.form (show (pdbl l).length = 16 by rw [pdbl_len, HLL.out]); clear hO4 hL4)
    | (
        at_builtin
        (with_reducible show wpList _ _ _ _ _ (World.alloc w4 _))
        refine append_b hu_sl hu_u8 rfl _ _ rfl w4.heap.size _ [] (by rfl) (own_lit0 w4 _ (Nat.le_refl _)) _ text (by rfl) ((HT.out.below (below_more (by rw [HN.out]; exact HM2.out) HL4.out (by have := HN.out; omega))).alloc _) (by rw [ET.out]; simp; omega) (by simp) ?_
        intro v5 w5 hO5 hG5
        rw [List.nil_append] at hO5
        have HO5 := Lib.hid hO5
        have HL5 := Lib.hid (show Below w4.heap.size w4 w5 from below_own (below_alloc (Below.refl _ _) (Nat.le_refl _) _) (by simp) hG5 (fun q hq => ((own_lit0 w4 w4.heap.size (Nat.le_refl _)).lt q hq).1))
        clear hO5 hG5
        obtain ⟨wt, ewt⟩ : ∃ wt : World, wt = w5 := ⟨_, rfl⟩
        subst ewt
        obtain ⟨tt, ett⟩ : ∃ t, text = t := ⟨_, rfl⟩
        obtain ⟨ss, ess⟩ : ∃ s, pdbl l = s := ⟨_, rfl⟩
        have HFU := Lib.hid (show pfull 16 text l = turnEnd tt ss by rw [HFU0.out, ett, ess])
        have HSS := Lib.hid (show ss.length = 16 by rw [← ess, pdbl_len, HLL.out])
        have HOt := HO5
        have HOs := Lib.hid (show SlB wt (.slice gs 16 cs) ss from by rw [← ess]; exact (HO4.out.under HL5.out).slB)
        have HBt := Lib.hid (VB.next (VB.next HB2.out HL4.out) HL5.out)
        have HRt := Lib.hid ((HR2.out.below HL4.out (by omega)).below HL5.out (by have := HL4.out.size; omega))
        have HMt := Lib.hid (show Below N w wt from below_more (below_more HM2.out HL4.out (by omega)) HL5.out (by have := HL4.out.size; omega))
        have hzt : N + 2 ≤ wt.heap.size := by have := HL4.out.size; have := HL5.out.size; omega
        have HTL := Lib.hid (show tt.length = T by rw [← ett]; exact ET.out)
        rw [ett] at HOt
        clear HO5 HO4 HL4 HL5 HB2 HR2 HM2 ess hz3
        obtain ⟨j, ej⟩ : ∃ j, tt.length = 16 * j ∧ 0 < j ∧ j ≤ 100 := ⟨T / 16, by rw [HTL.out]; omega, by omega, by omega⟩
        obtain ⟨ej1, ej2, ej3⟩ := ej
        obtain ⟨gt, ctt, egt, hgt1, hgt2, hrt, hft, hct⟩ := HOt.out.form (by omega)
        rw [ej1] at egt hct
        subst egt
        have HRT := Lib.hid hrt
        obtain ⟨M, eM⟩ : ∃ M, 16 * j = M := ⟨_, rfl⟩
        rw [eM] at ej1 hct
        rw [eM]
        have EM := Lib.hid eM
        have EJ := Lib.hid ej1
        obtain ⟨q, eq⟩ : ∃ q, M - 16 = q := ⟨_, rfl⟩
        have EQ := Lib.hid eq
        have s1 : IntKind.i64.wrap ((M : Int) - 16) = (q : Int) := by rw [IntWalk.i64_in _ (by omega)]; omega
        have s2 : (M : Int) - 16 = (q : Int) := by omega
        have s8 : wrap64 (q : Int) = (q : Int) := by unfold wrap64; omega
        have s3 : (q : Int) ≤ (M : Int) := by omega
        have s4 : (q : Int) ≤ (ctt : Int) := by omega
        have s5 : ¬ ctt = q := by omega
        have s6 : M - q = 16 := by omega
        have s7 : (M : Int) ≤ (ctt : Int) := by omega
        have HCT := Lib.hid hct
        have HSt := Lib.hid HOt.out.slB
        rw [EM.out] at HSt
        have HFL := Lib.hid (show pcmac 1 key text = pchain 1 key (turnEnd tt ss) j by
          rw [pcmac1 key text l _ HLE.out HFU.out, turnEnd_len _ _ (by rw [HSS.out, EJ.out]; omega), EJ.out]
          congr 1
          omega)
        have HTU := Lib.hid (show turnEnd tt ss = tt.take q ++ pxor (tt.drop q) ss by unfold turnEnd; rw [HSS.out, EJ.out, eq])
        have HTUL := Lib.hid (show (turnEnd tt ss).length = 16 * j by rw [turnEnd_len _ _ (by rw [HSS.out, EJ.out]; omega), EJ.out]; exact eM.symm)
        clear hrt ej1 eq eM hgt2 hct hft))
  refine (RXor_any _ _ (tt.drop q) ss wt (by have := HSt.out.drop (k := q) (by rw [EJ.out]; omega); rw [s6, Nat.zero_add] at this; exact this) HOs.out (by rw [List.length_drop, EJ.out, HSS.out]; omega) (by rw [List.length_drop, EJ.out]; omega)).mono ?_; rintro e w7 ⟨v7, rfl, hO7, hL7⟩; have HO7 := Lib.hid hO7; have HL7 := Lib.hid hL7; clear hO7 hL7
  have HZT := Lib.hid hzt
  have EJ2 := Lib.hid ej2
  have EJ3 := Lib.hid ej3
  clear s1 s3 s5 s6 s7 hc1 hc2 hT16 hzt hgt1 ej2 ej3
  go_wp2_with (first
    | (at_builtin; (with_reducible show wpList _ _ _ _ _ (World.alloc w7 _)); refine append_b hu_sl hu_u8 rfl _ _ rfl w7.heap.size _ [] (by rfl) (own_lit0 w7 _ (Nat.le_refl _)) _ (tt.take q) (by rfl) (((HSt.out.below HL7.out).alloc _).take (n := q) (by rw [EJ.out]; omega)) (by rw [List.length_take, EJ.out]; simp; have := EM.out; have := EJ3.out; omega) (by simp) ?_; intro v8 w8 hO8 hG8; rw [List.nil_append] at hO8; have HO8 := Lib.hid hO8; have HL8 := Lib.hid (show Below w7.heap.size w7 w8 from below_own (below_alloc (Below.refl _ _) (Nat.le_refl _) _) (by simp) hG8 (fun q hq => ((own_lit0 w7 w7.heap.size (Nat.le_refl _)).lt q hq).1)); clear hO8 hG8)
    | (at_builtin; (with_reducible show wpList _ _ _ _ _ w8); refine append_b hu_sl hu_u8 rfl _ _ rfl w7.heap.size _ (tt.take q) (by rfl) HO8.out _ (pxor (tt.drop q) ss) (by rfl) (HO7.out.under HL8.out).slB (by rw [List.length_take, EJ.out, pxor_len, List.length_drop, EJ.out]; have := EM.out; have := EJ3.out; omega) HL8.out.size ?_; intro v9 w9 hO9 hG9; rw [← HTU.out] at hO9; have HO9 := Lib.hid hO9; have HL9 := Lib.hid (show Below w7.heap.size w7 w9 from below_own HL8.out HL8.out.size hG9 (fun q hq => (HO8.out.lt q hq).1)); clear hO9 hG9))
  obtain ⟨A9, c9, e9, _⟩ := HO9.out.slB.formc HTUL.out
  subst e9
  have HB := Lib.hid (VB.next (VB.next HBt.out HL7.out) (show Below w7.heap.size w7 w9 from HL9.out))
  have HR := Lib.hid ((HRt.out.below HL7.out (by have := HZT.out; omega)).below HL9.out (by have := HL7.out.size; have := HZT.out; omega))
  have HM := Lib.hid (show Below N w w9 from below_more (below_more HMt.out HL7.out (by have := HZT.out; omega)) HL9.out (by have := HL7.out.size; have := HZT.out; omega))
  have hz9 : N + 2 ≤ w9.heap.size := by have := HL7.out.size; have := HL9.out.size; have := HZT.out; omega
  have HK9 := Lib.hid (HK.out.below (show Below w.heap.size w w9 by rw [HN.out]; exact HM.out))
  have ej2 := EJ2.out
  have ej3 := EJ3.out
  clear s2 s4 s8 HL7 HL8 HL9 HO7 HO8 HOt HOs HBt HRt HMt
  have hS : Bk w9.drew N bkt x y ∧ Below N w w9.drew := ⟨HB.out, ⟨HM.out.os, HM.out.tape, HM.out.output, HM.out.size, HM.out.block⟩⟩
  refine wp_region_held (S := fun w9 => Bk w9 N bkt x y ∧ Below N w w9) (by kernel_rfl) ?_
  show wpAnyH _ _ _ _ _ 14 _ _ w9.drew
  refine wpAnyH_take (i := 0) rfl (by kernel_rfl) (by kernel_rfl) (by kernel_rfl) (fun _ _ _ h => h) (yields_val (by kernel_rfl) (.int .i64 1) (fun w => by kernel_rfl)) hS ?_
  refine wpAnyH_take (i := 1) rfl (by kernel_rfl) (by kernel_rfl) (by kernel_rfl) (fun _ _ _ h => h) (yields_val (by kernel_rfl) (vk) (fun w => by kernel_rfl)) hS ?_
  refine wpAnyH_take (i := 2) rfl (by kernel_rfl) (by kernel_rfl) (by kernel_rfl) (fun _ _ _ h => h) (yields_bk (by kernel_rfl) _ rfl N bkt x y (by kernel_rfl) (fun w9 h9 => h9.1)) hS ?_
  refine wpAnyH_take (i := 3) rfl (by kernel_rfl) (by kernel_rfl) (by kernel_rfl) (fun _ _ _ h => h) (yields_val (by kernel_rfl) (.int .i64 16) (fun w => by kernel_rfl)) hS ?_
  refine wpAnyH_take (i := 5) rfl (by kernel_rfl) (by kernel_rfl) (by kernel_rfl) (fun _ _ _ h => h) (yields_val (by kernel_rfl) (.slice A9 (16 * j) c9) (fun w => by kernel_rfl)) hS ?_
  refine wpAnyH_all (rs := [4]) (by kernel_rfl) (by decide) ?_
  intro i0 hi0
  obtain rfl : i0 = 4 := by simpa using hi0
  refine wpOp_run rfl (by kernel_rfl) (.slice (some ⟨w9.heap.size, 0, none⟩) 16 16) (w9.drew.alloc (.cells (Bs (List.replicate 16 0)) u8t)) (by kernel_rfl) ?_
  have hLa : Below w9.heap.size w9 (w9.drew.alloc (.cells (Bs (List.replicate 16 0)) u8t)) := below_alloc (below_drew w9) (Nat.le_refl _) _
  have hZr : Blk (w9.drew.alloc (.cells (Bs (List.replicate 16 0)) u8t)) w9.heap.size u8t (List.replicate 16 0) := heap_alloc_new w9.drew _
  have hza : w9.heap.size + 1 = (w9.drew.alloc (.cells (Bs (List.replicate 16 0)) u8t)).heap.size := by simp
  obtain ⟨gz, egz⟩ : ∃ g, w9.heap.size = g := ⟨_, rfl⟩
  rw [egz] at hLa hZr hza ⊢
  generalize w9.drew.alloc (.cells (Bs (List.replicate 16 0)) u8t) = wz at hLa hZr hza ⊢
  have HLA := Lib.hid (show Below w9.heap.size w9 wz by rw [egz]; exact hLa)
  clear hLa
  have hZs : SlB wz (.slice (some ⟨gz, 0, none⟩) 16 16) (List.replicate 16 0) := ⟨_, 16, by rw [List.length_replicate], fun h => (by cases h), by rw [List.length_replicate]; exact Nat.le_refl _, by decide, fun _ => ⟨gz, 0, rfl, fun k hk => by rw [Nat.zero_add]; exact hZr.cell k hk⟩⟩
  have hS : Bk wz N bkt x y ∧ Below N w wz := ⟨VB.next HB.out HLA.out, below_more HM.out HLA.out (by omega)⟩
  refine ⟨hS, ?_⟩
  refine wpAnyH_all (rs := [6]) (by kernel_rfl) (by decide) ?_
  intro i1 hi1
  obtain rfl : i1 = 6 := by simpa using hi1
  refine wpOp_enterE rfl (by kernel_rfl) 16 #[.int .i64 1, vk, .agg #[x, y], .slice (some ⟨gz, 0, none⟩) 16 16, .slice A9 (16 * j) c9, .bool false] (fun v w' => ∃ vd, v = .tuple #[.agg #[x, y], vd, .int .i64 (-1)] ∧ Own w' wz.heap.size vd (chTo 1 key (List.replicate 16 0) (turnEnd tt ss) j).1 ∧ Below wz.heap.size wz w') (by kernel_rfl) ((rMode1_any vk _ _ key (List.replicate 16 0) (turnEnd tt ss) x y j wz HX1.out HY1.out (HK9.out.below HLA.out) HKN.out hZs (List.length_replicate ..) (HO9.out.slB.below HLA.out) HTUL.out ej2 (by omega)).mono fun e w' ⟨vd, h1, h2, h3⟩ => ⟨_, h1, vd, rfl, h2, h3⟩) ?_
  rintro vr wb ⟨vd, rfl, hDl, hLb⟩
  have hS : Bk wb N bkt x y ∧ Below N w wb := ⟨VB.next hS.1 hLb, below_more hS.2 hLb (by omega)⟩
  refine ⟨hS, ?_⟩
  refine wpAnyH_take (i := 7) rfl (by kernel_rfl) (by kernel_rfl) (by kernel_rfl) (fun _ _ _ h => h) (yields_val (by kernel_rfl) (.tuple #[.agg #[x, y], vd, .int .i64 (-1)]) (fun w => by kernel_rfl)) hS ?_
  refine wpAnyH_take (i := 8) rfl (by kernel_rfl) (by kernel_rfl) (by kernel_rfl) (fun _ _ _ h => h) (yields_val (by kernel_rfl) (.agg #[x, y]) (fun w => by kernel_rfl)) hS ?_
  refine wpAnyH_take (i := 9) rfl (by kernel_rfl) (by kernel_rfl) (by kernel_rfl) (fun _ _ _ h => h) (yields_val (by kernel_rfl) (vd) (fun w => by kernel_rfl)) hS ?_
  refine wpAnyH_take (i := 10) rfl (by kernel_rfl) (by kernel_rfl) (by kernel_rfl) (fun _ _ _ h => h) (yields_val (by kernel_rfl) (.int .i64 (-1)) (fun w => by kernel_rfl)) hS ?_
  refine wpAnyH_all (rs := [11]) (by kernel_rfl) (by decide) ?_
  intro i2 hi2
  obtain rfl : i2 = 11 := by simpa using hi2
  refine wpOp_storev rfl (by kernel_rfl) bkt _ _ rfl N bkt 2 [x, y] (by kernel_rfl) (by kernel_rfl) (VB.row hS.1 rfl) HONE.out rfl bkt_i ?_
  intro ws hBs hGs hss
  have hS : Bk ws N bkt x y ∧ Below N w ws := ⟨hBs, below_new hS.2 (by have := HLA.out.size; have := hLb.size; omega) hGs (Nat.le_refl _)⟩
  refine ⟨hS, ?_⟩
  refine wpAnyH_take (i := 12) rfl (by kernel_rfl) (by kernel_rfl) (by kernel_rfl) (fun _ _ _ h => h) (yields_val (by kernel_rfl) (vd) (fun w => by kernel_rfl)) hS ?_
  refine wpAnyH_take (i := 13) rfl (by kernel_rfl) (by kernel_rfl) (by kernel_rfl) (fun _ _ _ h => h) (yields_val (by kernel_rfl) (.int .i64 (-1)) (fun w => by kernel_rfl)) hS ?_
  refine wpAnyH_done (by kernel_rfl) ?_ _
  simp only [Act.put, List.getElem_toArray, List.getElem_cons_succ, List.getElem_cons_zero, List.setIfInBounds_toArray, List.set_cons_succ, List.set_cons_zero]
  have hcl : (chTo 1 key (List.replicate 16 0) (turnEnd tt ss) j).1.length = M := by rw [chTo_len 1 key _ _ j (.inl rfl)]; exact EM.out
  obtain ⟨gd, cd, evd, hgd1, hgd2, _, _, hgdc⟩ := hDl.form (by have := EM.out; omega)
  rw [hcl] at evd hgdc
  subst evd
  have hDs := hDl.kept hGs (.inr (fun ee => absurd (hDl.lt N ee).1 (by omega)))
  have HDS := Lib.hid (show SlB ws (.slice (some ⟨gd, 0, none⟩) M cd) _ from hDs.slB)
  have HR2 := Lib.hid (show Row ws (N + 1) bkt 2 from ((HR.out.below HLA.out (by omega)).below hLb (by omega)).old hGs (by simp))
  have HB2 := Lib.hid hS.1
  have HM2 := Lib.hid hS.2
  have hz3 : N + 2 ≤ ws.heap.size := by have := hLb.size; omega
  have HCL := Lib.hid hcl
  have HGD := Lib.hid (show N + 2 ≤ gd by have := HLA.out.size; omega)
  have hq0 : q ≤ M := by have := EQ.out; omega
  have hq1 : M - q = 16 := by have := EQ.out; have := EM.out; omega
  have hq2 : ¬ cd = q := by omega
  have hwq : IntKind.i64.wrap ((M : Int) - 16) = (q : Int) := by rw [IntWalk.i64_in _ (by have := EM.out; omega)]; omega
  clear hDl hDs hBs hGs hss hS hLb HLA hZr hZs hza egz HB HR HM hcl
  obtain ⟨wf, ewf⟩ : ∃ wf : World, wf = ws := ⟨_, rfl⟩
  subst ewf
  go_wp2
  have hS : Bk wf.drew N bkt x y := HB2.out
  refine wp_region_held (S := fun w9 => Bk w9 N bkt x y) (by kernel_rfl) ?_
  show wpAnyH _ _ _ _ _ 10 _ _ wf.drew
  refine wpAnyH_take (i := 0) rfl (by kernel_rfl) (by kernel_rfl) (by kernel_rfl) (fun _ _ _ h => h) (yields_bk (by kernel_rfl) _ rfl N bkt x y (by kernel_rfl) (fun w9 h9 => h9)) hS ?_
  refine wpAnyH_take (i := 1) rfl (by kernel_rfl) (by kernel_rfl) (by kernel_rfl) (fun _ _ _ h => h) (yields_val (by kernel_rfl) (.slice (some ⟨gd, 0, none⟩) M cd) (fun w => by kernel_rfl)) hS ?_
  refine wpAnyH_take (i := 2) rfl (by kernel_rfl) (by kernel_rfl) (by kernel_rfl) (fun _ _ _ h => h) (yields_val (by kernel_rfl) (.slice (some ⟨gd, 0, none⟩) M cd) (fun w => by kernel_rfl)) hS ?_
  refine wpAnyH_take (i := 3) rfl (by kernel_rfl) (by kernel_rfl) (by kernel_rfl) (fun _ _ _ h => h) (yields_val (by kernel_rfl) (.int .i64 M) (fun w => by kernel_rfl)) hS ?_
  refine wpAnyH_take (i := 4) rfl (by kernel_rfl) (by kernel_rfl) (by kernel_rfl) (fun _ _ _ h => h) (yields_val (by kernel_rfl) (.int .i64 16) (fun w => by kernel_rfl)) hS ?_
  refine wpAnyH_take (i := 5) rfl (by kernel_rfl) (by kernel_rfl) (by kernel_rfl) (fun _ _ _ h => h) (yields_val (by kernel_rfl) (.int .i64 q) (fun w => by rw [← hwq]; kernel_rfl)) hS ?_
  refine wpAnyH_take (i := 6) rfl (by kernel_rfl) (by kernel_rfl) (by kernel_rfl) (fun _ _ _ h => h) (yields_fromB (by kernel_rfl) _ _ rfl gd 0 M cd q (by kernel_rfl) (by kernel_rfl) hq0 hgdc hq2) hS ?_
  refine wpAnyH_all (rs := [7]) (by kernel_rfl) (by decide) ?_
  intro i2 hi2
  obtain rfl : i2 = 7 := by simpa using hi2
  refine wpOp_storev rfl (by kernel_rfl) bkt _ _ rfl (N + 1) bkt 2 [x, y] (by kernel_rfl) (by kernel_rfl) HR2.out HONE.out rfl bkt_i ?_
  intro wr hBr hGr hsr
  have hGr2 : wf.grownBy wr (some (N + 1)) := ⟨hGr.os, hGr.tape, hGr.output, hGr.size, hGr.block⟩
  have hS : Bk wr N bkt x y := VB.old hS hGr (by simp)
  refine ⟨hS, ?_⟩
  refine wpAnyH_take (i := 8) rfl (by kernel_rfl) (by kernel_rfl) (by kernel_rfl) (fun _ _ _ h => h) (yields_val (by kernel_rfl) (.slice (some ⟨gd, 0 + q, none⟩) (M - q) (cd - q)) (fun w => by kernel_rfl)) hS ?_
  refine wpAnyH_take (i := 9) rfl (by kernel_rfl) (by kernel_rfl) (by kernel_rfl) (fun _ _ _ h => h) (yields_val (by kernel_rfl) (.bool true) (fun w => by kernel_rfl)) hS ?_
  refine wpAnyH_done (by kernel_rfl) ?_ _
  simp only [Act.put, List.getElem_toArray, List.getElem_cons_succ, List.getElem_cons_zero, List.setIfInBounds_toArray, List.set_cons_succ, List.set_cons_zero]
  go_wp2
  refine bodyPost_ret (results_bk rfl _ _ (N + 1) bkt x y rfl hBr) rfl ⟨_, rfl, ?_, ?_, ?_⟩
  · rw [HFL.out]
    have h1 := (HDS.out.drop (k := q) (by rw [HCL.out]; exact hq0))
    have h2 := chTo_drop 1 key (List.replicate 16 0) (turnEnd tt ss) j (.inl rfl) ej2
    rw [show psize 1 * (j - 1) = q from by have := EQ.out; have := EM.out; show 16 * (j - 1) = q; omega] at h2
    rw [h2] at h1
    show SlB wr (.slice (some ⟨gd, 0 + q, none⟩) (M - q) (cd - q)) _
    exact h1.old hGr2 (.inr (fun ee => absurd ee (by have := HGD.out; simp [Value.ownBlock]; omega)))
  · intro q' hq'
    have hq2 : Value.ownBlock (.slice (some ⟨gd, 0 + q, none⟩) (M - q) (cd - q)) = some q' := hq'
    have : gd = q' := by simpa [Value.ownBlock] using hq2
    have := HGD.out
    have := HN.out
    omega
  · rw [HN.out]; exact below_new HM2.out (by omega) hGr2 (by omega)
set_option maxHeartbeats 12800000 in
set_option maxRecDepth 100000 in
theorem rCmac1_pad0 (vk vt : Value) (key text : List UInt8) (x y : Value) (w : World) (hx1 : ∃ A n c, x = .slice A n c) (hy1 : ∃ A n c, y = .slice A n c) (hk : SlB w vk key) (hn : key.length = 16 ∨ key.length = 24 ∨ key.length = 32) (ht : SlB w vt text) (htl : text.length ≤ 1000) (h0 : text.length = 0) (hp : needPad text.length 16 = true) :
    Calls Tryz.prog 25 #[.int .i64 1, vk, .agg #[x, y], vt] w fun e w' => ∃ v, e = .returned (.tuple #[.agg #[x, y], v, .bool true]) ∧ SlB w' v (pcmac 1 key text) ∧ (∀ q, v.ownBlock = some q → w.heap.size ≤ q) ∧ Below w.heap.size w w' := by
  obtain ⟨N, hN⟩ : ∃ N, w.heap.size = N := ⟨_, rfl⟩
  have HN := Lib.hid hN
  have HX1 := Lib.hid hx1
  have HY1 := Lib.hid hy1
  have HONE := Lib.hid (show ∀ u ∈ [x, y], u.oneCell' = true from by
    intro u hu
    rcases List.mem_cons.1 hu with rfl | hu
    · exact sl_one _ hx1
    · rcases List.mem_cons.1 hu with rfl | hu
      · exact sl_one _ hy1
      · cases hu)
  have HK := Lib.hid hk
  have HKN := Lib.hid hn
  have HTX := Lib.hid htl
  have HPD := Lib.hid hp
  obtain ⟨A, ct, rfl, _⟩ := id ht
  obtain ⟨T, eT⟩ : ∃ T, text.length = T := ⟨_, rfl⟩
  have ET := Lib.hid eT
  rw [eT] at ht htl hp ⊢
  have HT := Lib.hid ht
  obtain ⟨l, el⟩ : ∃ l, pEnc key (List.replicate 16 0) = l := ⟨_, rfl⟩
  have HLE := Lib.hid el
  have HLL := Lib.hid (show l.length = 16 by rw [← el]; exact pEnc_len _ _ (List.length_replicate ..))
  have hT0 : T ≤ 1000 := htl
  have HFU0 := Lib.hid (show pfull 16 text l = turnEnd (ppad text 16) (pdbl (pdbl l)) by unfold pfull; rw [ET.out, hp]; rfl)
  have HPL := Lib.hid (show (ppad text 16).length % 16 = 0 ∧ 0 < (ppad text 16).length ∧ (ppad text 16).length ≤ 1100 from ⟨ppad_mod text 16 (by decide), by rw [ppad_len]; omega, by rw [ppad_len]; have := pzeros_lt text.length 16 (by decide); have := ET.out; omega⟩)
  have hc1 : ((T : Int) == 0) = true := by rw [eT] at h0; simp; omega
  clear h0
  clear hx1 hy1 hk hn ht eT el hp
  go_enter Tryz.func25, Tryz.ntmps25
  go_wp2_with (first
    | ((with_reducible show wpList _ _ _ _ _ w); refine box_vb (w := w) rfl bkt _ rfl [x, y] (by rfl) ?_; intro w1 hB1 hG1 hs1; have HB1 := Lib.hid hB1; have HG1 := Lib.hid hG1; clear hB1 hG1)
    | ((with_reducible show wpList _ _ _ _ _ w1); refine alloc_vb (w := w1) rfl bkt rfl (.agg #[.slice none 0 0, .slice none 0 0]) [.slice none 0 0, .slice none 0 0] (fun _ => by kernel_rfl) rfl ?_; intro w2 hB2 hG2 hs2; have HB2 := Lib.hid hB2; have HG2 := Lib.hid hG2; clear hB2 hG2)
    | (go_at_call 14; refine (rSize_1 _).mono ?_; rintro e w2 ⟨rfl, rfl⟩))
  have e1 : w1.heap.size = N + 1 := by omega
  have HB := Lib.hid (show Bk w2 N bkt x y from by
    have := HB1.out
    rw [hN] at this
    exact this.old HG2.out (by simp))
  have HR := Lib.hid (show Row w2 (N + 1) bkt 2 from by
    have := HB2.out
    rw [e1] at this
    exact VB.row this rfl)
  have HM := Lib.hid (show Below N w w2 from below_none (below_none (Below.refl N w) (by omega) HG1.out) (by omega) HG2.out)
  have hz2 : N + 2 ≤ w2.heap.size := by omega
  clear HB1 HB2 HG1 HG2 hs1 hs2 e1 hN
  have hS : Bk w2.drew N bkt x y ∧ Below N w w2.drew := ⟨HB.out, ⟨HM.out.os, HM.out.tape, HM.out.output, HM.out.size, HM.out.block⟩⟩
  refine wp_region_held (S := fun w9 => Bk w9 N bkt x y ∧ Below N w w9) (by kernel_rfl) ?_
  show wpAnyH _ _ _ _ _ 13 _ _ w2.drew
  refine wpAnyH_take (i := 0) rfl (by kernel_rfl) (by kernel_rfl) (by kernel_rfl) (fun _ _ _ h => h) (yields_val (by kernel_rfl) (.int .i64 1) (fun w => by kernel_rfl)) hS ?_
  refine wpAnyH_take (i := 1) rfl (by kernel_rfl) (by kernel_rfl) (by kernel_rfl) (fun _ _ _ h => h) (yields_val (by kernel_rfl) (vk) (fun w => by kernel_rfl)) hS ?_
  refine wpAnyH_take (i := 2) rfl (by kernel_rfl) (by kernel_rfl) (by kernel_rfl) (fun _ _ _ h => h) (yields_bk (by kernel_rfl) _ rfl N bkt x y (by kernel_rfl) (fun w9 h9 => h9.1)) hS ?_
  refine wpAnyH_take (i := 3) rfl (by kernel_rfl) (by kernel_rfl) (by kernel_rfl) (fun _ _ _ h => h) (yields_val (by kernel_rfl) (.int .i64 16) (fun w => by kernel_rfl)) hS ?_
  refine wpAnyH_all (rs := [4]) (by kernel_rfl) (by decide) ?_
  intro i0 hi0
  obtain rfl : i0 = 4 := by simpa using hi0
  refine wpOp_run rfl (by kernel_rfl) (.slice (some ⟨w2.heap.size, 0, none⟩) 16 16) (w2.drew.alloc (.cells (Bs (List.replicate 16 0)) u8t)) (by kernel_rfl) ?_
  have hLa : Below w2.heap.size w2 (w2.drew.alloc (.cells (Bs (List.replicate 16 0)) u8t)) := below_alloc (below_drew w2) (Nat.le_refl _) _
  have hZr : Blk (w2.drew.alloc (.cells (Bs (List.replicate 16 0)) u8t)) w2.heap.size u8t (List.replicate 16 0) := heap_alloc_new w2.drew _
  have hza : w2.heap.size + 1 = (w2.drew.alloc (.cells (Bs (List.replicate 16 0)) u8t)).heap.size := by simp
  obtain ⟨gz, egz⟩ : ∃ g, w2.heap.size = g := ⟨_, rfl⟩
  rw [egz] at hLa hZr hza ⊢
  generalize w2.drew.alloc (.cells (Bs (List.replicate 16 0)) u8t) = wz at hLa hZr hza ⊢
  have HLA := Lib.hid (show Below w2.heap.size w2 wz by rw [egz]; exact hLa)
  clear hLa
  have hZs : SlB wz (.slice (some ⟨gz, 0, none⟩) 16 16) (List.replicate 16 0) := ⟨_, 16, by rw [List.length_replicate], fun h => (by cases h), by rw [List.length_replicate]; exact Nat.le_refl _, by decide, fun _ => ⟨gz, 0, rfl, fun k hk => by rw [Nat.zero_add]; exact hZr.cell k hk⟩⟩
  have hS : Bk wz N bkt x y ∧ Below N w wz := ⟨VB.next HB.out HLA.out, below_more HM.out HLA.out (by omega)⟩
  refine ⟨hS, ?_⟩
  refine wpAnyH_all (rs := [5]) (by kernel_rfl) (by decide) ?_
  intro i1 hi1
  obtain rfl : i1 = 5 := by simpa using hi1
  refine wpOp_enterE rfl (by kernel_rfl) 51 #[.int .i64 1, vk, .agg #[x, y], .slice (some ⟨gz, 0, none⟩) 16 16, .bool false] (fun v w' => ∃ vd, v = .tuple #[.agg #[x, y], vd, .bool true] ∧ SlB w' vd l ∧ (∀ q, vd.ownBlock = some q → wz.heap.size ≤ q) ∧ Below wz.heap.size wz w') (by kernel_rfl) ((rDo1_any vk _ key (List.replicate 16 0) x y wz HX1.out HY1.out (HK.out.below (by rw [HN.out]; exact hS.2)) HKN.out hZs (List.length_replicate ..)).mono fun e w' ⟨vd, h1, h2, h3, h4⟩ => ⟨_, h1, vd, rfl, by rw [← HLE.out]; exact h2, h3, h4⟩) ?_
  rintro vr wb ⟨vd, rfl, hDl, hDf, hLb⟩
  have hS : Bk wb N bkt x y ∧ Below N w wb := ⟨VB.next hS.1 hLb, below_more hS.2 hLb (by omega)⟩
  refine ⟨hS, ?_⟩
  refine wpAnyH_take (i := 6) rfl (by kernel_rfl) (by kernel_rfl) (by kernel_rfl) (fun _ _ _ h => h) (yields_val (by kernel_rfl) (.tuple #[.agg #[x, y], vd, .bool true]) (fun w => by kernel_rfl)) hS ?_
  refine wpAnyH_take (i := 7) rfl (by kernel_rfl) (by kernel_rfl) (by kernel_rfl) (fun _ _ _ h => h) (yields_val (by kernel_rfl) (.agg #[x, y]) (fun w => by kernel_rfl)) hS ?_
  refine wpAnyH_take (i := 8) rfl (by kernel_rfl) (by kernel_rfl) (by kernel_rfl) (fun _ _ _ h => h) (yields_val (by kernel_rfl) (vd) (fun w => by kernel_rfl)) hS ?_
  refine wpAnyH_take (i := 9) rfl (by kernel_rfl) (by kernel_rfl) (by kernel_rfl) (fun _ _ _ h => h) (yields_val (by kernel_rfl) (.bool true) (fun w => by kernel_rfl)) hS ?_
  refine wpAnyH_all (rs := [10]) (by kernel_rfl) (by decide) ?_
  intro i2 hi2
  obtain rfl : i2 = 10 := by simpa using hi2
  refine wpOp_storev rfl (by kernel_rfl) bkt _ _ rfl N bkt 2 [x, y] (by kernel_rfl) (by kernel_rfl) (VB.row hS.1 rfl) HONE.out rfl bkt_i ?_
  intro ws hBs hGs hss
  have hS : Bk ws N bkt x y ∧ Below N w ws := ⟨hBs, below_new hS.2 (by have := HLA.out.size; have := hLb.size; omega) hGs (Nat.le_refl _)⟩
  refine ⟨hS, ?_⟩
  refine wpAnyH_take (i := 11) rfl (by kernel_rfl) (by kernel_rfl) (by kernel_rfl) (fun _ _ _ h => h) (yields_val (by kernel_rfl) (vd) (fun w => by kernel_rfl)) hS ?_
  refine wpAnyH_take (i := 12) rfl (by kernel_rfl) (by kernel_rfl) (by kernel_rfl) (fun _ _ _ h => h) (yields_val (by kernel_rfl) (.bool true) (fun w => by kernel_rfl)) hS ?_
  refine wpAnyH_done (by kernel_rfl) ?_ _
  simp only [Act.put, List.getElem_toArray, List.getElem_cons_succ, List.getElem_cons_zero, List.setIfInBounds_toArray, List.set_cons_succ, List.set_cons_zero]
  obtain ⟨gl, cl, evd⟩ := hDl.form HLL.out
  subst evd
  have hDs := hDl.old hGs (.inr (fun ee => absurd (hDf N ee) (by omega)))
  have HD := Lib.hid hDs
  have HR2 := Lib.hid (show Row ws (N + 1) bkt 2 from ((HR.out.below HLA.out (by omega)).below hLb (by omega)).old hGs (by simp))
  have HB2 := Lib.hid hS.1
  have HM2 := Lib.hid hS.2
  have hz3 : N + 2 ≤ ws.heap.size := by have := hLb.size; omega
  clear hDl hDf hDs hBs hGs hss hS hLb HLA hZr hZs hza egz HB HR HM hz2
  obtain ⟨w3, ew3⟩ : ∃ w3 : World, w3 = ws := ⟨_, rfl⟩
  subst ew3
  go_wp2_with (first
    | (go_at_call 58; (with_reducible show Calls _ _ _ w3 _); refine (rdouble_16 _ l w3 HD.out HLL.out).mono ?_; rintro e w4 ⟨vs, rfl, hO4, hL4⟩; have HO4 := Lib.hid hO4; have HL4 := Lib.hid hL4; obtain ⟨gs, cs, rfl⟩ := hO4.slB.form (show (pdbl l).length = 16 by rw [pdbl_len, HLL.out]); clear hO4 hL4)
    | (
        at_builtin
        (with_reducible show wpList _ _ _ _ _ (World.alloc w4 _))
        refine append_b hu_sl hu_u8 rfl _ _ rfl w4.heap.size _ [] (by rfl) (own_lit0 w4 _ (Nat.le_refl _)) _ text (by rfl) ((HT.out.below (below_more (by rw [HN.out]; exact HM2.out) HL4.out (by have := HN.out; omega))).alloc _) (by rw [ET.out]; simp; omega) (by simp) ?_
        intro v5 w5 hO5 hG5
        rw [List.nil_append] at hO5
        have HO5 := Lib.hid hO5
        have HL5 := Lib.hid (show Below w4.heap.size w4 w5 from below_own (below_alloc (Below.refl _ _) (Nat.le_refl _) _) (by simp) hG5 (fun q hq => ((own_lit0 w4 w4.heap.size (Nat.le_refl _)).lt q hq).1))
        clear hO5 hG5
        obtain ⟨A5, c5, rfl, _⟩ := HO5.out.slB.formc ET.out)
    | (
        go_at_call 58
        (with_reducible show Calls _ _ _ w5 _)
        refine (rdouble_16 _ (pdbl l) w5 (HO4.out.under HL5.out).slB (by rw [pdbl_len, HLL.out])).mono ?_
        rintro e w6 ⟨vs2, rfl, hO6, hL6⟩
        have HO6 := Lib.hid hO6
        have HL6 := Lib.hid hL6
        obtain ⟨gs2, cs2, rfl⟩ := hO6.slB.form (show (pdbl (pdbl l)).length = 16 by rw [pdbl_len, pdbl_len, HLL.out])
        have HB6 := Lib.hid (VB.next (VB.next (VB.next HB2.out HL4.out) HL5.out) HL6.out)
        have HR6 := Lib.hid (((HR2.out.below HL4.out (by omega)).below HL5.out (by have := HL4.out.size; omega)).below HL6.out (by have := HL4.out.size; have := HL5.out.size; omega))
        have HM6 := Lib.hid (show Below N w w6 from below_more (below_more (below_more HM2.out HL4.out (by omega)) HL5.out (by have := HL4.out.size; omega)) HL6.out (by have := HL4.out.size; have := HL5.out.size; omega))
        have hz6 : N + 2 ≤ w6.heap.size := by have := HL4.out.size; have := HL5.out.size; have := HL6.out.size; omega
        clear hO6 hL6)
    | (
        go_at_call 59
        refine (rPad_any _ text 16 w6 (HT.out.below (by rw [HN.out]; exact HM6.out)) (by rw [ET.out]; omega) (by decide) (by decide)).mono ?_
        rintro e wt ⟨vp, rfl, hOp, hLp⟩
        obtain ⟨tt, ett⟩ : ∃ t, ppad text 16 = t := ⟨_, rfl⟩
        obtain ⟨ss, ess⟩ : ∃ s, pdbl (pdbl l) = s := ⟨_, rfl⟩
        have HFU := Lib.hid (show pfull 16 text l = turnEnd tt ss by rw [HFU0.out, ett, ess])
        have HSS := Lib.hid (show ss.length = 16 by rw [← ess, pdbl_len, pdbl_len, HLL.out])
        rw [ett] at hOp
        have HOt := Lib.hid hOp
        have HOs := Lib.hid (show SlB wt (.slice gs2 16 cs2) ss from by rw [← ess]; exact (HO6.out.under hLp).slB)
        have HBt := Lib.hid (VB.next HB6.out hLp)
        have HRt := Lib.hid (HR6.out.below hLp (by omega))
        have HMt := Lib.hid (show Below N w wt from below_more HM6.out hLp (by omega))
        have hzt : N + 2 ≤ wt.heap.size := by have := hLp.size; omega
        have HTL := Lib.hid (show tt.length % 16 = 0 ∧ 0 < tt.length ∧ tt.length ≤ 1100 by rw [← ett]; exact HPL.out)
        clear hOp hLp HO5 HO4 HL4 HL5 HB2 HR2 HM2 HO6 HL6 HB6 HR6 HM6 hz6 ess hz3
        obtain ⟨j, ej⟩ : ∃ j, tt.length = 16 * j ∧ 0 < j ∧ j ≤ 100 := ⟨tt.length / 16, by have := HTL.out; omega, by have := HTL.out; omega, by have := HTL.out; omega⟩
        obtain ⟨ej1, ej2, ej3⟩ := ej
        obtain ⟨gt, ctt, egt, hgt1, hgt2, hrt, hft, hct⟩ := HOt.out.form (by omega)
        rw [ej1] at egt hct
        subst egt
        have HRT := Lib.hid hrt
        obtain ⟨M, eM⟩ : ∃ M, 16 * j = M := ⟨_, rfl⟩
        rw [eM] at ej1 hct
        rw [eM]
        have EM := Lib.hid eM
        have EJ := Lib.hid ej1
        obtain ⟨q, eq⟩ : ∃ q, M - 16 = q := ⟨_, rfl⟩
        have EQ := Lib.hid eq
        have s1 : IntKind.i64.wrap ((M : Int) - 16) = (q : Int) := by rw [IntWalk.i64_in _ (by omega)]; omega
        have s2 : (M : Int) - 16 = (q : Int) := by omega
        have s8 : wrap64 (q : Int) = (q : Int) := by unfold wrap64; omega
        have s3 : (q : Int) ≤ (M : Int) := by omega
        have s4 : (q : Int) ≤ (ctt : Int) := by omega
        have s5 : ¬ ctt = q := by omega
        have s6 : M - q = 16 := by omega
        have s7 : (M : Int) ≤ (ctt : Int) := by omega
        have HCT := Lib.hid hct
        have HSt := Lib.hid HOt.out.slB
        rw [EM.out] at HSt
        have HFL := Lib.hid (show pcmac 1 key text = pchain 1 key (turnEnd tt ss) j by
          rw [pcmac1 key text l _ HLE.out HFU.out, turnEnd_len _ _ (by rw [HSS.out, EJ.out]; omega), EJ.out]
          congr 1
          omega)
        have HTU := Lib.hid (show turnEnd tt ss = tt.take q ++ pxor (tt.drop q) ss by unfold turnEnd; rw [HSS.out, EJ.out, eq])
        have HTUL := Lib.hid (show (turnEnd tt ss).length = 16 * j by rw [turnEnd_len _ _ (by rw [HSS.out, EJ.out]; omega), EJ.out]; exact eM.symm)
        clear hrt ej1 eq eM hgt2 hct hft))
  refine (RXor_any _ _ (tt.drop q) ss wt (by have := HSt.out.drop (k := q) (by rw [EJ.out]; omega); rw [s6, Nat.zero_add] at this; exact this) HOs.out (by rw [List.length_drop, EJ.out, HSS.out]; omega) (by rw [List.length_drop, EJ.out]; omega)).mono ?_; rintro e w7 ⟨v7, rfl, hO7, hL7⟩; have HO7 := Lib.hid hO7; have HL7 := Lib.hid hL7; clear hO7 hL7
  have HZT := Lib.hid hzt
  have EJ2 := Lib.hid ej2
  have EJ3 := Lib.hid ej3
  clear s1 s3 s5 s6 s7 hc1 hT0 hzt hgt1 ej2 ej3
  go_wp2_with (first
    | (at_builtin; (with_reducible show wpList _ _ _ _ _ (World.alloc w7 _)); refine append_b hu_sl hu_u8 rfl _ _ rfl w7.heap.size _ [] (by rfl) (own_lit0 w7 _ (Nat.le_refl _)) _ (tt.take q) (by rfl) (((HSt.out.below HL7.out).alloc _).take (n := q) (by rw [EJ.out]; omega)) (by rw [List.length_take, EJ.out]; simp; have := EM.out; have := EJ3.out; omega) (by simp) ?_; intro v8 w8 hO8 hG8; rw [List.nil_append] at hO8; have HO8 := Lib.hid hO8; have HL8 := Lib.hid (show Below w7.heap.size w7 w8 from below_own (below_alloc (Below.refl _ _) (Nat.le_refl _) _) (by simp) hG8 (fun q hq => ((own_lit0 w7 w7.heap.size (Nat.le_refl _)).lt q hq).1)); clear hO8 hG8)
    | (at_builtin; (with_reducible show wpList _ _ _ _ _ w8); refine append_b hu_sl hu_u8 rfl _ _ rfl w7.heap.size _ (tt.take q) (by rfl) HO8.out _ (pxor (tt.drop q) ss) (by rfl) (HO7.out.under HL8.out).slB (by rw [List.length_take, EJ.out, pxor_len, List.length_drop, EJ.out]; have := EM.out; have := EJ3.out; omega) HL8.out.size ?_; intro v9 w9 hO9 hG9; rw [← HTU.out] at hO9; have HO9 := Lib.hid hO9; have HL9 := Lib.hid (show Below w7.heap.size w7 w9 from below_own HL8.out HL8.out.size hG9 (fun q hq => (HO8.out.lt q hq).1)); clear hO9 hG9))
  obtain ⟨A9, c9, e9, _⟩ := HO9.out.slB.formc HTUL.out
  subst e9
  have HB := Lib.hid (VB.next (VB.next HBt.out HL7.out) (show Below w7.heap.size w7 w9 from HL9.out))
  have HR := Lib.hid ((HRt.out.below HL7.out (by have := HZT.out; omega)).below HL9.out (by have := HL7.out.size; have := HZT.out; omega))
  have HM := Lib.hid (show Below N w w9 from below_more (below_more HMt.out HL7.out (by have := HZT.out; omega)) HL9.out (by have := HL7.out.size; have := HZT.out; omega))
  have hz9 : N + 2 ≤ w9.heap.size := by have := HL7.out.size; have := HL9.out.size; have := HZT.out; omega
  have HK9 := Lib.hid (HK.out.below (show Below w.heap.size w w9 by rw [HN.out]; exact HM.out))
  have ej2 := EJ2.out
  have ej3 := EJ3.out
  clear s2 s4 s8 HL7 HL8 HL9 HO7 HO8 HOt HOs HBt HRt HMt
  have hS : Bk w9.drew N bkt x y ∧ Below N w w9.drew := ⟨HB.out, ⟨HM.out.os, HM.out.tape, HM.out.output, HM.out.size, HM.out.block⟩⟩
  refine wp_region_held (S := fun w9 => Bk w9 N bkt x y ∧ Below N w w9) (by kernel_rfl) ?_
  show wpAnyH _ _ _ _ _ 14 _ _ w9.drew
  refine wpAnyH_take (i := 0) rfl (by kernel_rfl) (by kernel_rfl) (by kernel_rfl) (fun _ _ _ h => h) (yields_val (by kernel_rfl) (.int .i64 1) (fun w => by kernel_rfl)) hS ?_
  refine wpAnyH_take (i := 1) rfl (by kernel_rfl) (by kernel_rfl) (by kernel_rfl) (fun _ _ _ h => h) (yields_val (by kernel_rfl) (vk) (fun w => by kernel_rfl)) hS ?_
  refine wpAnyH_take (i := 2) rfl (by kernel_rfl) (by kernel_rfl) (by kernel_rfl) (fun _ _ _ h => h) (yields_bk (by kernel_rfl) _ rfl N bkt x y (by kernel_rfl) (fun w9 h9 => h9.1)) hS ?_
  refine wpAnyH_take (i := 3) rfl (by kernel_rfl) (by kernel_rfl) (by kernel_rfl) (fun _ _ _ h => h) (yields_val (by kernel_rfl) (.int .i64 16) (fun w => by kernel_rfl)) hS ?_
  refine wpAnyH_take (i := 5) rfl (by kernel_rfl) (by kernel_rfl) (by kernel_rfl) (fun _ _ _ h => h) (yields_val (by kernel_rfl) (.slice A9 (16 * j) c9) (fun w => by kernel_rfl)) hS ?_
  refine wpAnyH_all (rs := [4]) (by kernel_rfl) (by decide) ?_
  intro i0 hi0
  obtain rfl : i0 = 4 := by simpa using hi0
  refine wpOp_run rfl (by kernel_rfl) (.slice (some ⟨w9.heap.size, 0, none⟩) 16 16) (w9.drew.alloc (.cells (Bs (List.replicate 16 0)) u8t)) (by kernel_rfl) ?_
  have hLa : Below w9.heap.size w9 (w9.drew.alloc (.cells (Bs (List.replicate 16 0)) u8t)) := below_alloc (below_drew w9) (Nat.le_refl _) _
  have hZr : Blk (w9.drew.alloc (.cells (Bs (List.replicate 16 0)) u8t)) w9.heap.size u8t (List.replicate 16 0) := heap_alloc_new w9.drew _
  have hza : w9.heap.size + 1 = (w9.drew.alloc (.cells (Bs (List.replicate 16 0)) u8t)).heap.size := by simp
  obtain ⟨gz, egz⟩ : ∃ g, w9.heap.size = g := ⟨_, rfl⟩
  rw [egz] at hLa hZr hza ⊢
  generalize w9.drew.alloc (.cells (Bs (List.replicate 16 0)) u8t) = wz at hLa hZr hza ⊢
  have HLA := Lib.hid (show Below w9.heap.size w9 wz by rw [egz]; exact hLa)
  clear hLa
  have hZs : SlB wz (.slice (some ⟨gz, 0, none⟩) 16 16) (List.replicate 16 0) := ⟨_, 16, by rw [List.length_replicate], fun h => (by cases h), by rw [List.length_replicate]; exact Nat.le_refl _, by decide, fun _ => ⟨gz, 0, rfl, fun k hk => by rw [Nat.zero_add]; exact hZr.cell k hk⟩⟩
  have hS : Bk wz N bkt x y ∧ Below N w wz := ⟨VB.next HB.out HLA.out, below_more HM.out HLA.out (by omega)⟩
  refine ⟨hS, ?_⟩
  refine wpAnyH_all (rs := [6]) (by kernel_rfl) (by decide) ?_
  intro i1 hi1
  obtain rfl : i1 = 6 := by simpa using hi1
  refine wpOp_enterE rfl (by kernel_rfl) 16 #[.int .i64 1, vk, .agg #[x, y], .slice (some ⟨gz, 0, none⟩) 16 16, .slice A9 (16 * j) c9, .bool false] (fun v w' => ∃ vd, v = .tuple #[.agg #[x, y], vd, .int .i64 (-1)] ∧ Own w' wz.heap.size vd (chTo 1 key (List.replicate 16 0) (turnEnd tt ss) j).1 ∧ Below wz.heap.size wz w') (by kernel_rfl) ((rMode1_any vk _ _ key (List.replicate 16 0) (turnEnd tt ss) x y j wz HX1.out HY1.out (HK9.out.below HLA.out) HKN.out hZs (List.length_replicate ..) (HO9.out.slB.below HLA.out) HTUL.out ej2 (by omega)).mono fun e w' ⟨vd, h1, h2, h3⟩ => ⟨_, h1, vd, rfl, h2, h3⟩) ?_
  rintro vr wb ⟨vd, rfl, hDl, hLb⟩
  have hS : Bk wb N bkt x y ∧ Below N w wb := ⟨VB.next hS.1 hLb, below_more hS.2 hLb (by omega)⟩
  refine ⟨hS, ?_⟩
  refine wpAnyH_take (i := 7) rfl (by kernel_rfl) (by kernel_rfl) (by kernel_rfl) (fun _ _ _ h => h) (yields_val (by kernel_rfl) (.tuple #[.agg #[x, y], vd, .int .i64 (-1)]) (fun w => by kernel_rfl)) hS ?_
  refine wpAnyH_take (i := 8) rfl (by kernel_rfl) (by kernel_rfl) (by kernel_rfl) (fun _ _ _ h => h) (yields_val (by kernel_rfl) (.agg #[x, y]) (fun w => by kernel_rfl)) hS ?_
  refine wpAnyH_take (i := 9) rfl (by kernel_rfl) (by kernel_rfl) (by kernel_rfl) (fun _ _ _ h => h) (yields_val (by kernel_rfl) (vd) (fun w => by kernel_rfl)) hS ?_
  refine wpAnyH_take (i := 10) rfl (by kernel_rfl) (by kernel_rfl) (by kernel_rfl) (fun _ _ _ h => h) (yields_val (by kernel_rfl) (.int .i64 (-1)) (fun w => by kernel_rfl)) hS ?_
  refine wpAnyH_all (rs := [11]) (by kernel_rfl) (by decide) ?_
  intro i2 hi2
  obtain rfl : i2 = 11 := by simpa using hi2
  refine wpOp_storev rfl (by kernel_rfl) bkt _ _ rfl N bkt 2 [x, y] (by kernel_rfl) (by kernel_rfl) (VB.row hS.1 rfl) HONE.out rfl bkt_i ?_
  intro ws hBs hGs hss
  have hS : Bk ws N bkt x y ∧ Below N w ws := ⟨hBs, below_new hS.2 (by have := HLA.out.size; have := hLb.size; omega) hGs (Nat.le_refl _)⟩
  refine ⟨hS, ?_⟩
  refine wpAnyH_take (i := 12) rfl (by kernel_rfl) (by kernel_rfl) (by kernel_rfl) (fun _ _ _ h => h) (yields_val (by kernel_rfl) (vd) (fun w => by kernel_rfl)) hS ?_
  refine wpAnyH_take (i := 13) rfl (by kernel_rfl) (by kernel_rfl) (by kernel_rfl) (fun _ _ _ h => h) (yields_val (by kernel_rfl) (.int .i64 (-1)) (fun w => by kernel_rfl)) hS ?_
  refine wpAnyH_done (by kernel_rfl) ?_ _
  simp only [Act.put, List.getElem_toArray, List.getElem_cons_succ, List.getElem_cons_zero, List.setIfInBounds_toArray, List.set_cons_succ, List.set_cons_zero]
  have hcl : (chTo 1 key (List.replicate 16 0) (turnEnd tt ss) j).1.length = M := by rw [chTo_len 1 key _ _ j (.inl rfl)]; exact EM.out
  obtain ⟨gd, cd, evd, hgd1, hgd2, _, _, hgdc⟩ := hDl.form (by have := EM.out; omega)
  rw [hcl] at evd hgdc
  subst evd
  have hDs := hDl.kept hGs (.inr (fun ee => absurd (hDl.lt N ee).1 (by omega)))
  have HDS := Lib.hid (show SlB ws (.slice (some ⟨gd, 0, none⟩) M cd) _ from hDs.slB)
  have HR2 := Lib.hid (show Row ws (N + 1) bkt 2 from ((HR.out.below HLA.out (by omega)).below hLb (by omega)).old hGs (by simp))
  have HB2 := Lib.hid hS.1
  have HM2 := Lib.hid hS.2
  have hz3 : N + 2 ≤ ws.heap.size := by have := hLb.size; omega
  have HCL := Lib.hid hcl
  have HGD := Lib.hid (show N + 2 ≤ gd by have := HLA.out.size; omega)
  have hq0 : q ≤ M := by have := EQ.out; omega
  have hq1 : M - q = 16 := by have := EQ.out; have := EM.out; omega
  have hq2 : ¬ cd = q := by omega
  have hwq : IntKind.i64.wrap ((M : Int) - 16) = (q : Int) := by rw [IntWalk.i64_in _ (by have := EM.out; omega)]; omega
  clear hDl hDs hBs hGs hss hS hLb HLA hZr hZs hza egz HB HR HM hcl
  obtain ⟨wf, ewf⟩ : ∃ wf : World, wf = ws := ⟨_, rfl⟩
  subst ewf
  go_wp2
  have hS : Bk wf.drew N bkt x y := HB2.out
  refine wp_region_held (S := fun w9 => Bk w9 N bkt x y) (by kernel_rfl) ?_
  show wpAnyH _ _ _ _ _ 10 _ _ wf.drew
  refine wpAnyH_take (i := 0) rfl (by kernel_rfl) (by kernel_rfl) (by kernel_rfl) (fun _ _ _ h => h) (yields_bk (by kernel_rfl) _ rfl N bkt x y (by kernel_rfl) (fun w9 h9 => h9)) hS ?_
  refine wpAnyH_take (i := 1) rfl (by kernel_rfl) (by kernel_rfl) (by kernel_rfl) (fun _ _ _ h => h) (yields_val (by kernel_rfl) (.slice (some ⟨gd, 0, none⟩) M cd) (fun w => by kernel_rfl)) hS ?_
  refine wpAnyH_take (i := 2) rfl (by kernel_rfl) (by kernel_rfl) (by kernel_rfl) (fun _ _ _ h => h) (yields_val (by kernel_rfl) (.slice (some ⟨gd, 0, none⟩) M cd) (fun w => by kernel_rfl)) hS ?_
  refine wpAnyH_take (i := 3) rfl (by kernel_rfl) (by kernel_rfl) (by kernel_rfl) (fun _ _ _ h => h) (yields_val (by kernel_rfl) (.int .i64 M) (fun w => by kernel_rfl)) hS ?_
  refine wpAnyH_take (i := 4) rfl (by kernel_rfl) (by kernel_rfl) (by kernel_rfl) (fun _ _ _ h => h) (yields_val (by kernel_rfl) (.int .i64 16) (fun w => by kernel_rfl)) hS ?_
  refine wpAnyH_take (i := 5) rfl (by kernel_rfl) (by kernel_rfl) (by kernel_rfl) (fun _ _ _ h => h) (yields_val (by kernel_rfl) (.int .i64 q) (fun w => by rw [← hwq]; kernel_rfl)) hS ?_
  refine wpAnyH_take (i := 6) rfl (by kernel_rfl) (by kernel_rfl) (by kernel_rfl) (fun _ _ _ h => h) (yields_fromB (by kernel_rfl) _ _ rfl gd 0 M cd q (by kernel_rfl) (by kernel_rfl) hq0 hgdc hq2) hS ?_
  refine wpAnyH_all (rs := [7]) (by kernel_rfl) (by decide) ?_
  intro i2 hi2
  obtain rfl : i2 = 7 := by simpa using hi2
  refine wpOp_storev rfl (by kernel_rfl) bkt _ _ rfl (N + 1) bkt 2 [x, y] (by kernel_rfl) (by kernel_rfl) HR2.out HONE.out rfl bkt_i ?_
  intro wr hBr hGr hsr
  have hGr2 : wf.grownBy wr (some (N + 1)) := ⟨hGr.os, hGr.tape, hGr.output, hGr.size, hGr.block⟩
  have hS : Bk wr N bkt x y := VB.old hS hGr (by simp)
  refine ⟨hS, ?_⟩
  refine wpAnyH_take (i := 8) rfl (by kernel_rfl) (by kernel_rfl) (by kernel_rfl) (fun _ _ _ h => h) (yields_val (by kernel_rfl) (.slice (some ⟨gd, 0 + q, none⟩) (M - q) (cd - q)) (fun w => by kernel_rfl)) hS ?_
  refine wpAnyH_take (i := 9) rfl (by kernel_rfl) (by kernel_rfl) (by kernel_rfl) (fun _ _ _ h => h) (yields_val (by kernel_rfl) (.bool true) (fun w => by kernel_rfl)) hS ?_
  refine wpAnyH_done (by kernel_rfl) ?_ _
  simp only [Act.put, List.getElem_toArray, List.getElem_cons_succ, List.getElem_cons_zero, List.setIfInBounds_toArray, List.set_cons_succ, List.set_cons_zero]
  go_wp2
  refine bodyPost_ret (results_bk rfl _ _ (N + 1) bkt x y rfl hBr) rfl ⟨_, rfl, ?_, ?_, ?_⟩
  · rw [HFL.out]
    have h1 := (HDS.out.drop (k := q) (by rw [HCL.out]; exact hq0))
    have h2 := chTo_drop 1 key (List.replicate 16 0) (turnEnd tt ss) j (.inl rfl) ej2
    rw [show psize 1 * (j - 1) = q from by have := EQ.out; have := EM.out; show 16 * (j - 1) = q; omega] at h2
    rw [h2] at h1
    show SlB wr (.slice (some ⟨gd, 0 + q, none⟩) (M - q) (cd - q)) _
    exact h1.old hGr2 (.inr (fun ee => absurd ee (by have := HGD.out; simp [Value.ownBlock]; omega)))
  · intro q' hq'
    have hq2 : Value.ownBlock (.slice (some ⟨gd, 0 + q, none⟩) (M - q) (cd - q)) = some q' := hq'
    have : gd = q' := by simpa [Value.ownBlock] using hq2
    have := HGD.out
    have := HN.out
    omega
  · rw [HN.out]; exact below_new HM2.out (by omega) hGr2 (by omega)
set_option maxHeartbeats 12800000 in
set_option maxRecDepth 100000 in
theorem rCmac1_padn (vk vt : Value) (key text : List UInt8) (x y : Value) (w : World) (hx1 : ∃ A n c, x = .slice A n c) (hy1 : ∃ A n c, y = .slice A n c) (hk : SlB w vk key) (hn : key.length = 16 ∨ key.length = 24 ∨ key.length = 32) (ht : SlB w vt text) (htl : text.length ≤ 1000) (h0 : 0 < text.length % 16) (hp : needPad text.length 16 = true) :
    Calls Tryz.prog 25 #[.int .i64 1, vk, .agg #[x, y], vt] w fun e w' => ∃ v, e = .returned (.tuple #[.agg #[x, y], v, .bool true]) ∧ SlB w' v (pcmac 1 key text) ∧ (∀ q, v.ownBlock = some q → w.heap.size ≤ q) ∧ Below w.heap.size w w' := by
  obtain ⟨N, hN⟩ : ∃ N, w.heap.size = N := ⟨_, rfl⟩
  have HN := Lib.hid hN
  have HX1 := Lib.hid hx1
  have HY1 := Lib.hid hy1
  have HONE := Lib.hid (show ∀ u ∈ [x, y], u.oneCell' = true from by
    intro u hu
    rcases List.mem_cons.1 hu with rfl | hu
    · exact sl_one _ hx1
    · rcases List.mem_cons.1 hu with rfl | hu
      · exact sl_one _ hy1
      · cases hu)
  have HK := Lib.hid hk
  have HKN := Lib.hid hn
  have HTX := Lib.hid htl
  have HPD := Lib.hid hp
  obtain ⟨A, ct, rfl, _⟩ := id ht
  obtain ⟨T, eT⟩ : ∃ T, text.length = T := ⟨_, rfl⟩
  have ET := Lib.hid eT
  rw [eT] at ht htl hp ⊢
  have HT := Lib.hid ht
  obtain ⟨l, el⟩ : ∃ l, pEnc key (List.replicate 16 0) = l := ⟨_, rfl⟩
  have HLE := Lib.hid el
  have HLL := Lib.hid (show l.length = 16 by rw [← el]; exact pEnc_len _ _ (List.length_replicate ..))
  have hT0 : T ≤ 1000 := htl
  have HFU0 := Lib.hid (show pfull 16 text l = turnEnd (ppad text 16) (pdbl (pdbl l)) by unfold pfull; rw [ET.out, hp]; rfl)
  have HPL := Lib.hid (show (ppad text 16).length % 16 = 0 ∧ 0 < (ppad text 16).length ∧ (ppad text 16).length ≤ 1100 from ⟨ppad_mod text 16 (by decide), by rw [ppad_len]; omega, by rw [ppad_len]; have := pzeros_lt text.length 16 (by decide); have := ET.out; omega⟩)
  have hc1 : ((T : Int) == 0) = false := by rw [eT] at h0; simp; omega
  have hc2 : (0 : Int) < (T : Int) % 16 := by rw [eT] at h0; omega
  clear h0
  clear hx1 hy1 hk hn ht eT el hp
  go_enter Tryz.func25, Tryz.ntmps25
  go_wp2_with (first
    | ((with_reducible show wpList _ _ _ _ _ w); refine box_vb (w := w) rfl bkt _ rfl [x, y] (by rfl) ?_; intro w1 hB1 hG1 hs1; have HB1 := Lib.hid hB1; have HG1 := Lib.hid hG1; clear hB1 hG1)
    | ((with_reducible show wpList _ _ _ _ _ w1); refine alloc_vb (w := w1) rfl bkt rfl (.agg #[.slice none 0 0, .slice none 0 0]) [.slice none 0 0, .slice none 0 0] (fun _ => by kernel_rfl) rfl ?_; intro w2 hB2 hG2 hs2; have HB2 := Lib.hid hB2; have HG2 := Lib.hid hG2; clear hB2 hG2)
    | (go_at_call 14; refine (rSize_1 _).mono ?_; rintro e w2 ⟨rfl, rfl⟩))
  have e1 : w1.heap.size = N + 1 := by omega
  have HB := Lib.hid (show Bk w2 N bkt x y from by
    have := HB1.out
    rw [hN] at this
    exact this.old HG2.out (by simp))
  have HR := Lib.hid (show Row w2 (N + 1) bkt 2 from by
    have := HB2.out
    rw [e1] at this
    exact VB.row this rfl)
  have HM := Lib.hid (show Below N w w2 from below_none (below_none (Below.refl N w) (by omega) HG1.out) (by omega) HG2.out)
  have hz2 : N + 2 ≤ w2.heap.size := by omega
  clear HB1 HB2 HG1 HG2 hs1 hs2 e1 hN
  have hS : Bk w2.drew N bkt x y ∧ Below N w w2.drew := ⟨HB.out, ⟨HM.out.os, HM.out.tape, HM.out.output, HM.out.size, HM.out.block⟩⟩
  refine wp_region_held (S := fun w9 => Bk w9 N bkt x y ∧ Below N w w9) (by kernel_rfl) ?_
  show wpAnyH _ _ _ _ _ 13 _ _ w2.drew
  refine wpAnyH_take (i := 0) rfl (by kernel_rfl) (by kernel_rfl) (by kernel_rfl) (fun _ _ _ h => h) (yields_val (by kernel_rfl) (.int .i64 1) (fun w => by kernel_rfl)) hS ?_
  refine wpAnyH_take (i := 1) rfl (by kernel_rfl) (by kernel_rfl) (by kernel_rfl) (fun _ _ _ h => h) (yields_val (by kernel_rfl) (vk) (fun w => by kernel_rfl)) hS ?_
  refine wpAnyH_take (i := 2) rfl (by kernel_rfl) (by kernel_rfl) (by kernel_rfl) (fun _ _ _ h => h) (yields_bk (by kernel_rfl) _ rfl N bkt x y (by kernel_rfl) (fun w9 h9 => h9.1)) hS ?_
  refine wpAnyH_take (i := 3) rfl (by kernel_rfl) (by kernel_rfl) (by kernel_rfl) (fun _ _ _ h => h) (yields_val (by kernel_rfl) (.int .i64 16) (fun w => by kernel_rfl)) hS ?_
  refine wpAnyH_all (rs := [4]) (by kernel_rfl) (by decide) ?_
  intro i0 hi0
  obtain rfl : i0 = 4 := by simpa using hi0
  refine wpOp_run rfl (by kernel_rfl) (.slice (some ⟨w2.heap.size, 0, none⟩) 16 16) (w2.drew.alloc (.cells (Bs (List.replicate 16 0)) u8t)) (by kernel_rfl) ?_
  have hLa : Below w2.heap.size w2 (w2.drew.alloc (.cells (Bs (List.replicate 16 0)) u8t)) := below_alloc (below_drew w2) (Nat.le_refl _) _
  have hZr : Blk (w2.drew.alloc (.cells (Bs (List.replicate 16 0)) u8t)) w2.heap.size u8t (List.replicate 16 0) := heap_alloc_new w2.drew _
  have hza : w2.heap.size + 1 = (w2.drew.alloc (.cells (Bs (List.replicate 16 0)) u8t)).heap.size := by simp
  obtain ⟨gz, egz⟩ : ∃ g, w2.heap.size = g := ⟨_, rfl⟩
  rw [egz] at hLa hZr hza ⊢
  generalize w2.drew.alloc (.cells (Bs (List.replicate 16 0)) u8t) = wz at hLa hZr hza ⊢
  have HLA := Lib.hid (show Below w2.heap.size w2 wz by rw [egz]; exact hLa)
  clear hLa
  have hZs : SlB wz (.slice (some ⟨gz, 0, none⟩) 16 16) (List.replicate 16 0) := ⟨_, 16, by rw [List.length_replicate], fun h => (by cases h), by rw [List.length_replicate]; exact Nat.le_refl _, by decide, fun _ => ⟨gz, 0, rfl, fun k hk => by rw [Nat.zero_add]; exact hZr.cell k hk⟩⟩
  have hS : Bk wz N bkt x y ∧ Below N w wz := ⟨VB.next HB.out HLA.out, below_more HM.out HLA.out (by omega)⟩
  refine ⟨hS, ?_⟩
  refine wpAnyH_all (rs := [5]) (by kernel_rfl) (by decide) ?_
  intro i1 hi1
  obtain rfl : i1 = 5 := by simpa using hi1
  refine wpOp_enterE rfl (by kernel_rfl) 51 #[.int .i64 1, vk, .agg #[x, y], .slice (some ⟨gz, 0, none⟩) 16 16, .bool false] (fun v w' => ∃ vd, v = .tuple #[.agg #[x, y], vd, .bool true] ∧ SlB w' vd l ∧ (∀ q, vd.ownBlock = some q → wz.heap.size ≤ q) ∧ Below wz.heap.size wz w') (by kernel_rfl) ((rDo1_any vk _ key (List.replicate 16 0) x y wz HX1.out HY1.out (HK.out.below (by rw [HN.out]; exact hS.2)) HKN.out hZs (List.length_replicate ..)).mono fun e w' ⟨vd, h1, h2, h3, h4⟩ => ⟨_, h1, vd, rfl, by rw [← HLE.out]; exact h2, h3, h4⟩) ?_
  rintro vr wb ⟨vd, rfl, hDl, hDf, hLb⟩
  have hS : Bk wb N bkt x y ∧ Below N w wb := ⟨VB.next hS.1 hLb, below_more hS.2 hLb (by omega)⟩
  refine ⟨hS, ?_⟩
  refine wpAnyH_take (i := 6) rfl (by kernel_rfl) (by kernel_rfl) (by kernel_rfl) (fun _ _ _ h => h) (yields_val (by kernel_rfl) (.tuple #[.agg #[x, y], vd, .bool true]) (fun w => by kernel_rfl)) hS ?_
  refine wpAnyH_take (i := 7) rfl (by kernel_rfl) (by kernel_rfl) (by kernel_rfl) (fun _ _ _ h => h) (yields_val (by kernel_rfl) (.agg #[x, y]) (fun w => by kernel_rfl)) hS ?_
  refine wpAnyH_take (i := 8) rfl (by kernel_rfl) (by kernel_rfl) (by kernel_rfl) (fun _ _ _ h => h) (yields_val (by kernel_rfl) (vd) (fun w => by kernel_rfl)) hS ?_
  refine wpAnyH_take (i := 9) rfl (by kernel_rfl) (by kernel_rfl) (by kernel_rfl) (fun _ _ _ h => h) (yields_val (by kernel_rfl) (.bool true) (fun w => by kernel_rfl)) hS ?_
  refine wpAnyH_all (rs := [10]) (by kernel_rfl) (by decide) ?_
  intro i2 hi2
  obtain rfl : i2 = 10 := by simpa using hi2
  refine wpOp_storev rfl (by kernel_rfl) bkt _ _ rfl N bkt 2 [x, y] (by kernel_rfl) (by kernel_rfl) (VB.row hS.1 rfl) HONE.out rfl bkt_i ?_
  intro ws hBs hGs hss
  have hS : Bk ws N bkt x y ∧ Below N w ws := ⟨hBs, below_new hS.2 (by have := HLA.out.size; have := hLb.size; omega) hGs (Nat.le_refl _)⟩
  refine ⟨hS, ?_⟩
  refine wpAnyH_take (i := 11) rfl (by kernel_rfl) (by kernel_rfl) (by kernel_rfl) (fun _ _ _ h => h) (yields_val (by kernel_rfl) (vd) (fun w => by kernel_rfl)) hS ?_
  refine wpAnyH_take (i := 12) rfl (by kernel_rfl) (by kernel_rfl) (by kernel_rfl) (fun _ _ _ h => h) (yields_val (by kernel_rfl) (.bool true) (fun w => by kernel_rfl)) hS ?_
  refine wpAnyH_done (by kernel_rfl) ?_ _
  simp only [Act.put, List.getElem_toArray, List.getElem_cons_succ, List.getElem_cons_zero, List.setIfInBounds_toArray, List.set_cons_succ, List.set_cons_zero]
  obtain ⟨gl, cl, evd⟩ := hDl.form HLL.out
  subst evd
  have hDs := hDl.old hGs (.inr (fun ee => absurd (hDf N ee) (by omega)))
  have HD := Lib.hid hDs
  have HR2 := Lib.hid (show Row ws (N + 1) bkt 2 from ((HR.out.below HLA.out (by omega)).below hLb (by omega)).old hGs (by simp))
  have HB2 := Lib.hid hS.1
  have HM2 := Lib.hid hS.2
  have hz3 : N + 2 ≤ ws.heap.size := by have := hLb.size; omega
  clear hDl hDf hDs hBs hGs hss hS hLb HLA hZr hZs hza egz HB HR HM hz2
  obtain ⟨w3, ew3⟩ : ∃ w3 : World, w3 = ws := ⟨_, rfl⟩
  subst ew3
  go_wp2_with (first
    | (go_at_call 58; (with_reducible show Calls _ _ _ w3 _); refine (rdouble_16 _ l w3 HD.out HLL.out).mono ?_; rintro e w4 ⟨vs, rfl, hO4, hL4⟩; have HO4 := Lib.hid hO4; have HL4 := Lib.hid hL4; obtain ⟨gs, cs, rfl⟩ := hO4.slB.form (show (pdbl l).length = 16 by rw [pdbl_len, HLL.out]); clear hO4 hL4)
    | (
        at_builtin
        (with_reducible show wpList _ _ _ _ _ (World.alloc w4 _))
        refine append_b hu_sl hu_u8 rfl _ _ rfl w4.heap.size _ [] (by rfl) (own_lit0 w4 _ (Nat.le_refl _)) _ text (by rfl) ((HT.out.below (below_more (by rw [HN.out]; exact HM2.out) HL4.out (by have := HN.out; omega))).alloc _) (by rw [ET.out]; simp; omega) (by simp) ?_
        intro v5 w5 hO5 hG5
        rw [List.nil_append] at hO5
        have HO5 := Lib.hid hO5
        have HL5 := Lib.hid (show Below w4.heap.size w4 w5 from below_own (below_alloc (Below.refl _ _) (Nat.le_refl _) _) (by simp) hG5 (fun q hq => ((own_lit0 w4 w4.heap.size (Nat.le_refl _)).lt q hq).1))
        clear hO5 hG5
        obtain ⟨A5, c5, rfl, _⟩ := HO5.out.slB.formc ET.out)
    | (
        go_at_call 58
        (with_reducible show Calls _ _ _ w5 _)
        refine (rdouble_16 _ (pdbl l) w5 (HO4.out.under HL5.out).slB (by rw [pdbl_len, HLL.out])).mono ?_
        rintro e w6 ⟨vs2, rfl, hO6, hL6⟩
        have HO6 := Lib.hid hO6
        have HL6 := Lib.hid hL6
        obtain ⟨gs2, cs2, rfl⟩ := hO6.slB.form (show (pdbl (pdbl l)).length = 16 by rw [pdbl_len, pdbl_len, HLL.out])
        have HB6 := Lib.hid (VB.next (VB.next (VB.next HB2.out HL4.out) HL5.out) HL6.out)
        have HR6 := Lib.hid (((HR2.out.below HL4.out (by omega)).below HL5.out (by have := HL4.out.size; omega)).below HL6.out (by have := HL4.out.size; have := HL5.out.size; omega))
        have HM6 := Lib.hid (show Below N w w6 from below_more (below_more (below_more HM2.out HL4.out (by omega)) HL5.out (by have := HL4.out.size; omega)) HL6.out (by have := HL4.out.size; have := HL5.out.size; omega))
        have hz6 : N + 2 ≤ w6.heap.size := by have := HL4.out.size; have := HL5.out.size; have := HL6.out.size; omega
        clear hO6 hL6)
    | (
        go_at_call 59
        refine (rPad_any _ text 16 w6 (HT.out.below (by rw [HN.out]; exact HM6.out)) (by rw [ET.out]; omega) (by decide) (by decide)).mono ?_
        rintro e wt ⟨vp, rfl, hOp, hLp⟩
        obtain ⟨tt, ett⟩ : ∃ t, ppad text 16 = t := ⟨_, rfl⟩
        obtain ⟨ss, ess⟩ : ∃ s, pdbl (pdbl l) = s := ⟨_, rfl⟩
        have HFU := Lib.hid (show pfull 16 text l = turnEnd tt ss by rw [HFU0.out, ett, ess])
        have HSS := Lib.hid (show ss.length = 16 by rw [← ess, pdbl_len, pdbl_len, HLL.out])
        rw [ett] at hOp
        have HOt := Lib.hid hOp
        have HOs := Lib.hid (show SlB wt (.slice gs2 16 cs2) ss from by rw [← ess]; exact (HO6.out.under hLp).slB)
        have HBt := Lib.hid (VB.next HB6.out hLp)
        have HRt := Lib.hid (HR6.out.below hLp (by omega))
        have HMt := Lib.hid (show Below N w wt from below_more HM6.out hLp (by omega))
        have hzt : N + 2 ≤ wt.heap.size := by have := hLp.size; omega
        have HTL := Lib.hid (show tt.length % 16 = 0 ∧ 0 < tt.length ∧ tt.length ≤ 1100 by rw [← ett]; exact HPL.out)
        clear hOp hLp HO5 HO4 HL4 HL5 HB2 HR2 HM2 HO6 HL6 HB6 HR6 HM6 hz6 ess hz3
        obtain ⟨j, ej⟩ : ∃ j, tt.length = 16 * j ∧ 0 < j ∧ j ≤ 100 := ⟨tt.length / 16, by have := HTL.out; omega, by have := HTL.out; omega, by have := HTL.out; omega⟩
        obtain ⟨ej1, ej2, ej3⟩ := ej
        obtain ⟨gt, ctt, egt, hgt1, hgt2, hrt, hft, hct⟩ := HOt.out.form (by omega)
        rw [ej1] at egt hct
        subst egt
        have HRT := Lib.hid hrt
        obtain ⟨M, eM⟩ : ∃ M, 16 * j = M := ⟨_, rfl⟩
        rw [eM] at ej1 hct
        rw [eM]
        have EM := Lib.hid eM
        have EJ := Lib.hid ej1
        obtain ⟨q, eq⟩ : ∃ q, M - 16 = q := ⟨_, rfl⟩
        have EQ := Lib.hid eq
        have s1 : IntKind.i64.wrap ((M : Int) - 16) = (q : Int) := by rw [IntWalk.i64_in _ (by omega)]; omega
        have s2 : (M : Int) - 16 = (q : Int) := by omega
        have s8 : wrap64 (q : Int) = (q : Int) := by unfold wrap64; omega
        have s3 : (q : Int) ≤ (M : Int) := by omega
        have s4 : (q : Int) ≤ (ctt : Int) := by omega
        have s5 : ¬ ctt = q := by omega
        have s6 : M - q = 16 := by omega
        have s7 : (M : Int) ≤ (ctt : Int) := by omega
        have HCT := Lib.hid hct
        have HSt := Lib.hid HOt.out.slB
        rw [EM.out] at HSt
        have HFL := Lib.hid (show pcmac 1 key text = pchain 1 key (turnEnd tt ss) j by
          rw [pcmac1 key text l _ HLE.out HFU.out, turnEnd_len _ _ (by rw [HSS.out, EJ.out]; omega), EJ.out]
          congr 1
          omega)
        have HTU := Lib.hid (show turnEnd tt ss = tt.take q ++ pxor (tt.drop q) ss by unfold turnEnd; rw [HSS.out, EJ.out, eq])
        have HTUL := Lib.hid (show (turnEnd tt ss).length = 16 * j by rw [turnEnd_len _ _ (by rw [HSS.out, EJ.out]; omega), EJ.out]; exact eM.symm)
        clear hrt ej1 eq eM hgt2 hct hft))
  refine (RXor_any _ _ (tt.drop q) ss wt (by have := HSt.out.drop (k := q) (by rw [EJ.out]; omega); rw [s6, Nat.zero_add] at this; exact this) HOs.out (by rw [List.length_drop, EJ.out, HSS.out]; omega) (by rw [List.length_drop, EJ.out]; omega)).mono ?_; rintro e w7 ⟨v7, rfl, hO7, hL7⟩; have HO7 := Lib.hid hO7; have HL7 := Lib.hid hL7; clear hO7 hL7
  have HZT := Lib.hid hzt
  have EJ2 := Lib.hid ej2
  have EJ3 := Lib.hid ej3
  clear s1 s3 s5 s6 s7 hc1 hc2 hT0 hzt hgt1 ej2 ej3
  go_wp2_with (first
    | (at_builtin; (with_reducible show wpList _ _ _ _ _ (World.alloc w7 _)); refine append_b hu_sl hu_u8 rfl _ _ rfl w7.heap.size _ [] (by rfl) (own_lit0 w7 _ (Nat.le_refl _)) _ (tt.take q) (by rfl) (((HSt.out.below HL7.out).alloc _).take (n := q) (by rw [EJ.out]; omega)) (by rw [List.length_take, EJ.out]; simp; have := EM.out; have := EJ3.out; omega) (by simp) ?_; intro v8 w8 hO8 hG8; rw [List.nil_append] at hO8; have HO8 := Lib.hid hO8; have HL8 := Lib.hid (show Below w7.heap.size w7 w8 from below_own (below_alloc (Below.refl _ _) (Nat.le_refl _) _) (by simp) hG8 (fun q hq => ((own_lit0 w7 w7.heap.size (Nat.le_refl _)).lt q hq).1)); clear hO8 hG8)
    | (at_builtin; (with_reducible show wpList _ _ _ _ _ w8); refine append_b hu_sl hu_u8 rfl _ _ rfl w7.heap.size _ (tt.take q) (by rfl) HO8.out _ (pxor (tt.drop q) ss) (by rfl) (HO7.out.under HL8.out).slB (by rw [List.length_take, EJ.out, pxor_len, List.length_drop, EJ.out]; have := EM.out; have := EJ3.out; omega) HL8.out.size ?_; intro v9 w9 hO9 hG9; rw [← HTU.out] at hO9; have HO9 := Lib.hid hO9; have HL9 := Lib.hid (show Below w7.heap.size w7 w9 from below_own HL8.out HL8.out.size hG9 (fun q hq => (HO8.out.lt q hq).1)); clear hO9 hG9))
  obtain ⟨A9, c9, e9, _⟩ := HO9.out.slB.formc HTUL.out
  subst e9
  have HB := Lib.hid (VB.next (VB.next HBt.out HL7.out) (show Below w7.heap.size w7 w9 from HL9.out))
  have HR := Lib.hid ((HRt.out.below HL7.out (by have := HZT.out; omega)).below HL9.out (by have := HL7.out.size; have := HZT.out; omega))
  have HM := Lib.hid (show Below N w w9 from below_more (below_more HMt.out HL7.out (by have := HZT.out; omega)) HL9.out (by have := HL7.out.size; have := HZT.out; omega))
  have hz9 : N + 2 ≤ w9.heap.size := by have := HL7.out.size; have := HL9.out.size; have := HZT.out; omega
  have HK9 := Lib.hid (HK.out.below (show Below w.heap.size w w9 by rw [HN.out]; exact HM.out))
  have ej2 := EJ2.out
  have ej3 := EJ3.out
  clear s2 s4 s8 HL7 HL8 HL9 HO7 HO8 HOt HOs HBt HRt HMt
  have hS : Bk w9.drew N bkt x y ∧ Below N w w9.drew := ⟨HB.out, ⟨HM.out.os, HM.out.tape, HM.out.output, HM.out.size, HM.out.block⟩⟩
  refine wp_region_held (S := fun w9 => Bk w9 N bkt x y ∧ Below N w w9) (by kernel_rfl) ?_
  show wpAnyH _ _ _ _ _ 14 _ _ w9.drew
  refine wpAnyH_take (i := 0) rfl (by kernel_rfl) (by kernel_rfl) (by kernel_rfl) (fun _ _ _ h => h) (yields_val (by kernel_rfl) (.int .i64 1) (fun w => by kernel_rfl)) hS ?_
  refine wpAnyH_take (i := 1) rfl (by kernel_rfl) (by kernel_rfl) (by kernel_rfl) (fun _ _ _ h => h) (yields_val (by kernel_rfl) (vk) (fun w => by kernel_rfl)) hS ?_
  refine wpAnyH_take (i := 2) rfl (by kernel_rfl) (by kernel_rfl) (by kernel_rfl) (fun _ _ _ h => h) (yields_bk (by kernel_rfl) _ rfl N bkt x y (by kernel_rfl) (fun w9 h9 => h9.1)) hS ?_
  refine wpAnyH_take (i := 3) rfl (by kernel_rfl) (by kernel_rfl) (by kernel_rfl) (fun _ _ _ h => h) (yields_val (by kernel_rfl) (.int .i64 16) (fun w => by kernel_rfl)) hS ?_
  refine wpAnyH_take (i := 5) rfl (by kernel_rfl) (by kernel_rfl) (by kernel_rfl) (fun _ _ _ h => h) (yields_val (by kernel_rfl) (.slice A9 (16 * j) c9) (fun w => by kernel_rfl)) hS ?_
  refine wpAnyH_all (rs := [4]) (by kernel_rfl) (by decide) ?_
  intro i0 hi0
  obtain rfl : i0 = 4 := by simpa using hi0
  refine wpOp_run rfl (by kernel_rfl) (.slice (some ⟨w9.heap.size, 0, none⟩) 16 16) (w9.drew.alloc (.cells (Bs (List.replicate 16 0)) u8t)) (by kernel_rfl) ?_
  have hLa : Below w9.heap.size w9 (w9.drew.alloc (.cells (Bs (List.replicate 16 0)) u8t)) := below_alloc (below_drew w9) (Nat.le_refl _) _
  have hZr : Blk (w9.drew.alloc (.cells (Bs (List.replicate 16 0)) u8t)) w9.heap.size u8t (List.replicate 16 0) := heap_alloc_new w9.drew _
  have hza : w9.heap.size + 1 = (w9.drew.alloc (.cells (Bs (List.replicate 16 0)) u8t)).heap.size := by simp
  obtain ⟨gz, egz⟩ : ∃ g, w9.heap.size = g := ⟨_, rfl⟩
  rw [egz] at hLa hZr hza ⊢
  generalize w9.drew.alloc (.cells (Bs (List.replicate 16 0)) u8t) = wz at hLa hZr hza ⊢
  have HLA := Lib.hid (show Below w9.heap.size w9 wz by rw [egz]; exact hLa)
  clear hLa
  have hZs : SlB wz (.slice (some ⟨gz, 0, none⟩) 16 16) (List.replicate 16 0) := ⟨_, 16, by rw [List.length_replicate], fun h => (by cases h), by rw [List.length_replicate]; exact Nat.le_refl _, by decide, fun _ => ⟨gz, 0, rfl, fun k hk => by rw [Nat.zero_add]; exact hZr.cell k hk⟩⟩
  have hS : Bk wz N bkt x y ∧ Below N w wz := ⟨VB.next HB.out HLA.out, below_more HM.out HLA.out (by omega)⟩
  refine ⟨hS, ?_⟩
  refine wpAnyH_all (rs := [6]) (by kernel_rfl) (by decide) ?_
  intro i1 hi1
  obtain rfl : i1 = 6 := by simpa using hi1
  refine wpOp_enterE rfl (by kernel_rfl) 16 #[.int .i64 1, vk, .agg #[x, y], .slice (some ⟨gz, 0, none⟩) 16 16, .slice A9 (16 * j) c9, .bool false] (fun v w' => ∃ vd, v = .tuple #[.agg #[x, y], vd, .int .i64 (-1)] ∧ Own w' wz.heap.size vd (chTo 1 key (List.replicate 16 0) (turnEnd tt ss) j).1 ∧ Below wz.heap.size wz w') (by kernel_rfl) ((rMode1_any vk _ _ key (List.replicate 16 0) (turnEnd tt ss) x y j wz HX1.out HY1.out (HK9.out.below HLA.out) HKN.out hZs (List.length_replicate ..) (HO9.out.slB.below HLA.out) HTUL.out ej2 (by omega)).mono fun e w' ⟨vd, h1, h2, h3⟩ => ⟨_, h1, vd, rfl, h2, h3⟩) ?_
  rintro vr wb ⟨vd, rfl, hDl, hLb⟩
  have hS : Bk wb N bkt x y ∧ Below N w wb := ⟨VB.next hS.1 hLb, below_more hS.2 hLb (by omega)⟩
  refine ⟨hS, ?_⟩
  refine wpAnyH_take (i := 7) rfl (by kernel_rfl) (by kernel_rfl) (by kernel_rfl) (fun _ _ _ h => h) (yields_val (by kernel_rfl) (.tuple #[.agg #[x, y], vd, .int .i64 (-1)]) (fun w => by kernel_rfl)) hS ?_
  refine wpAnyH_take (i := 8) rfl (by kernel_rfl) (by kernel_rfl) (by kernel_rfl) (fun _ _ _ h => h) (yields_val (by kernel_rfl) (.agg #[x, y]) (fun w => by kernel_rfl)) hS ?_
  refine wpAnyH_take (i := 9) rfl (by kernel_rfl) (by kernel_rfl) (by kernel_rfl) (fun _ _ _ h => h) (yields_val (by kernel_rfl) (vd) (fun w => by kernel_rfl)) hS ?_
  refine wpAnyH_take (i := 10) rfl (by kernel_rfl) (by kernel_rfl) (by kernel_rfl) (fun _ _ _ h => h) (yields_val (by kernel_rfl) (.int .i64 (-1)) (fun w => by kernel_rfl)) hS ?_
  refine wpAnyH_all (rs := [11]) (by kernel_rfl) (by decide) ?_
  intro i2 hi2
  obtain rfl : i2 = 11 := by simpa using hi2
  refine wpOp_storev rfl (by kernel_rfl) bkt _ _ rfl N bkt 2 [x, y] (by kernel_rfl) (by kernel_rfl) (VB.row hS.1 rfl) HONE.out rfl bkt_i ?_
  intro ws hBs hGs hss
  have hS : Bk ws N bkt x y ∧ Below N w ws := ⟨hBs, below_new hS.2 (by have := HLA.out.size; have := hLb.size; omega) hGs (Nat.le_refl _)⟩
  refine ⟨hS, ?_⟩
  refine wpAnyH_take (i := 12) rfl (by kernel_rfl) (by kernel_rfl) (by kernel_rfl) (fun _ _ _ h => h) (yields_val (by kernel_rfl) (vd) (fun w => by kernel_rfl)) hS ?_
  refine wpAnyH_take (i := 13) rfl (by kernel_rfl) (by kernel_rfl) (by kernel_rfl) (fun _ _ _ h => h) (yields_val (by kernel_rfl) (.int .i64 (-1)) (fun w => by kernel_rfl)) hS ?_
  refine wpAnyH_done (by kernel_rfl) ?_ _
  simp only [Act.put, List.getElem_toArray, List.getElem_cons_succ, List.getElem_cons_zero, List.setIfInBounds_toArray, List.set_cons_succ, List.set_cons_zero]
  have hcl : (chTo 1 key (List.replicate 16 0) (turnEnd tt ss) j).1.length = M := by rw [chTo_len 1 key _ _ j (.inl rfl)]; exact EM.out
  obtain ⟨gd, cd, evd, hgd1, hgd2, _, _, hgdc⟩ := hDl.form (by have := EM.out; omega)
  rw [hcl] at evd hgdc
  subst evd
  have hDs := hDl.kept hGs (.inr (fun ee => absurd (hDl.lt N ee).1 (by omega)))
  have HDS := Lib.hid (show SlB ws (.slice (some ⟨gd, 0, none⟩) M cd) _ from hDs.slB)
  have HR2 := Lib.hid (show Row ws (N + 1) bkt 2 from ((HR.out.below HLA.out (by omega)).below hLb (by omega)).old hGs (by simp))
  have HB2 := Lib.hid hS.1
  have HM2 := Lib.hid hS.2
  have hz3 : N + 2 ≤ ws.heap.size := by have := hLb.size; omega
  have HCL := Lib.hid hcl
  have HGD := Lib.hid (show N + 2 ≤ gd by have := HLA.out.size; omega)
  have hq0 : q ≤ M := by have := EQ.out; omega
  have hq1 : M - q = 16 := by have := EQ.out; have := EM.out; omega
  have hq2 : ¬ cd = q := by omega
  have hwq : IntKind.i64.wrap ((M : Int) - 16) = (q : Int) := by rw [IntWalk.i64_in _ (by have := EM.out; omega)]; omega
  clear hDl hDs hBs hGs hss hS hLb HLA hZr hZs hza egz HB HR HM hcl
  obtain ⟨wf, ewf⟩ : ∃ wf : World, wf = ws := ⟨_, rfl⟩
  subst ewf
  go_wp2
  have hS : Bk wf.drew N bkt x y := HB2.out
  refine wp_region_held (S := fun w9 => Bk w9 N bkt x y) (by kernel_rfl) ?_
  show wpAnyH _ _ _ _ _ 10 _ _ wf.drew
  refine wpAnyH_take (i := 0) rfl (by kernel_rfl) (by kernel_rfl) (by kernel_rfl) (fun _ _ _ h => h) (yields_bk (by kernel_rfl) _ rfl N bkt x y (by kernel_rfl) (fun w9 h9 => h9)) hS ?_
  refine wpAnyH_take (i := 1) rfl (by kernel_rfl) (by kernel_rfl) (by kernel_rfl) (fun _ _ _ h => h) (yields_val (by kernel_rfl) (.slice (some ⟨gd, 0, none⟩) M cd) (fun w => by kernel_rfl)) hS ?_
  refine wpAnyH_take (i := 2) rfl (by kernel_rfl) (by kernel_rfl) (by kernel_rfl) (fun _ _ _ h => h) (yields_val (by kernel_rfl) (.slice (some ⟨gd, 0, none⟩) M cd) (fun w => by kernel_rfl)) hS ?_
  refine wpAnyH_take (i := 3) rfl (by kernel_rfl) (by kernel_rfl) (by kernel_rfl) (fun _ _ _ h => h) (yields_val (by kernel_rfl) (.int .i64 M) (fun w => by kernel_rfl)) hS ?_
  refine wpAnyH_take (i := 4) rfl (by kernel_rfl) (by kernel_rfl) (by kernel_rfl) (fun _ _ _ h => h) (yields_val (by kernel_rfl) (.int .i64 16) (fun w => by kernel_rfl)) hS ?_
  refine wpAnyH_take (i := 5) rfl (by kernel_rfl) (by kernel_rfl) (by kernel_rfl) (fun _ _ _ h => h) (yields_val (by kernel_rfl) (.int .i64 q) (fun w => by rw [← hwq]; kernel_rfl)) hS ?_
  refine wpAnyH_take (i := 6) rfl (by kernel_rfl) (by kernel_rfl) (by kernel_rfl) (fun _ _ _ h => h) (yields_fromB (by kernel_rfl) _ _ rfl gd 0 M cd q (by kernel_rfl) (by kernel_rfl) hq0 hgdc hq2) hS ?_
  refine wpAnyH_all (rs := [7]) (by kernel_rfl) (by decide) ?_
  intro i2 hi2
  obtain rfl : i2 = 7 := by simpa using hi2
  refine wpOp_storev rfl (by kernel_rfl) bkt _ _ rfl (N + 1) bkt 2 [x, y] (by kernel_rfl) (by kernel_rfl) HR2.out HONE.out rfl bkt_i ?_
  intro wr hBr hGr hsr
  have hGr2 : wf.grownBy wr (some (N + 1)) := ⟨hGr.os, hGr.tape, hGr.output, hGr.size, hGr.block⟩
  have hS : Bk wr N bkt x y := VB.old hS hGr (by simp)
  refine ⟨hS, ?_⟩
  refine wpAnyH_take (i := 8) rfl (by kernel_rfl) (by kernel_rfl) (by kernel_rfl) (fun _ _ _ h => h) (yields_val (by kernel_rfl) (.slice (some ⟨gd, 0 + q, none⟩) (M - q) (cd - q)) (fun w => by kernel_rfl)) hS ?_
  refine wpAnyH_take (i := 9) rfl (by kernel_rfl) (by kernel_rfl) (by kernel_rfl) (fun _ _ _ h => h) (yields_val (by kernel_rfl) (.bool true) (fun w => by kernel_rfl)) hS ?_
  refine wpAnyH_done (by kernel_rfl) ?_ _
  simp only [Act.put, List.getElem_toArray, List.getElem_cons_succ, List.getElem_cons_zero, List.setIfInBounds_toArray, List.set_cons_succ, List.set_cons_zero]
  go_wp2
  refine bodyPost_ret (results_bk rfl _ _ (N + 1) bkt x y rfl hBr) rfl ⟨_, rfl, ?_, ?_, ?_⟩
  · rw [HFL.out]
    have h1 := (HDS.out.drop (k := q) (by rw [HCL.out]; exact hq0))
    have h2 := chTo_drop 1 key (List.replicate 16 0) (turnEnd tt ss) j (.inl rfl) ej2
    rw [show psize 1 * (j - 1) = q from by have := EQ.out; have := EM.out; show 16 * (j - 1) = q; omega] at h2
    rw [h2] at h1
    show SlB wr (.slice (some ⟨gd, 0 + q, none⟩) (M - q) (cd - q)) _
    exact h1.old hGr2 (.inr (fun ee => absurd ee (by have := HGD.out; simp [Value.ownBlock]; omega)))
  · intro q' hq'
    have hq2 : Value.ownBlock (.slice (some ⟨gd, 0 + q, none⟩) (M - q) (cd - q)) = some q' := hq'
    have : gd = q' := by simpa [Value.ownBlock] using hq2
    have := HGD.out
    have := HN.out
    omega
  · rw [HN.out]; exact below_new HM2.out (by omega) hGr2 (by omega)
theorem rCmac1_any (vk vt : Value) (key text : List UInt8) (x y : Value) (w : World) (hx1 : ∃ A n c, x = .slice A n c) (hy1 : ∃ A n c, y = .slice A n c) (hk : SlB w vk key) (hn : key.length = 16 ∨ key.length = 24 ∨ key.length = 32) (ht : SlB w vt text) (htl : text.length ≤ 1000) :
    Calls Tryz.prog 25 #[.int .i64 1, vk, .agg #[x, y], vt] w fun e w' => ∃ v, e = .returned (.tuple #[.agg #[x, y], v, .bool true]) ∧ SlB w' v (pcmac 1 key text) ∧ (∀ q, v.ownBlock = some q → w.heap.size ≤ q) ∧ Below w.heap.size w w' := by
  by_cases h : text.length = 0
  · exact rCmac1_pad0 vk vt key text x y w hx1 hy1 hk hn ht htl h (by unfold needPad; simp [h])
  · by_cases h2 : 0 < text.length % 16
    · exact rCmac1_padn vk vt key text x y w hx1 hy1 hk hn ht htl h2 (by unfold needPad; rw [Bool.or_eq_true]; exact .inr (by rw [bne_iff_ne]; omega))
    · exact rCmac1_full vk vt key text x y w hx1 hy1 hk hn ht htl (by unfold needPad; rw [Bool.or_eq_false_iff]; exact ⟨by rw [beq_eq_false_iff_ne]; exact h, by rw [bne_eq_false_iff_eq]; omega⟩)
end Go.Proofs.YtbbfjlnkhenbiaaGreatDoor
