/- mode.each, whatever its function does with a block. -/
import Derived.Test.YtbbfjlnkhenbiaaGreatDoorKB4
import Derived.Test.YtbbfjlnkhenbiaaGreatDoorKB5
import Derived.Test.YtbbfjlnkhenbiaaGreatDoorKB9
import Derived.Test.YtbbfjlnkhenbiaaGreatDoorKM3
import Derived.Test.YtbbfjlnkhenbiaaGreatDoorKB3
set_option linter.unusedVariables false
set_option linter.unusedSimpArgs false
namespace Lk
open Go Go.RowKit
def outTo (o : Nat → List UInt8) : Nat → List UInt8
  | 0 => []
  | k + 1 => outTo o k ++ o k
theorem outTo_len (o : Nat → List UInt8) (n : Nat) (h : ∀ k, (o k).length = n) : ∀ k, (outTo o k).length = n * k
  | 0 => by simp [outTo]
  | k + 1 => by rw [outTo, List.length_append, outTo_len o n h k, h k]; rw [Nat.mul_add, Nat.mul_one]
theorem grown_weak {w w1 : World} {row : Option Nat} (h : w.grownBy w1 none) : w.grownBy w1 row :=
  ⟨h.os, h.tape, h.output, h.size, fun i hi _ => h.block i hi (by simp)⟩
end Lk
namespace Go.Proofs.YtbbfjlnkhenbiaaGreatDoor
open Go.RowKit Lk
set_option maxHeartbeats 3200000 in
set_option maxRecDepth 100000 in
theorem eachA16 (q vt : Value) (B g1 g2 g3 gw m : Nat) (key text : List UInt8) (w : World) (I : Nat → World → Prop) (ob : Nat → List UInt8) (h : Cip w B q 1 key) (hs : SlB w vt text) (ht : text.length = 16 * m) (hmx : m ≤ 100000)
    (hgw : gw < w.heap.size) (hgt : 0 < m → ∀ j, vt.ownBlock = some j → j ≠ gw ∧ j < w.heap.size) (h0 : I 0 w) (hob : ∀ k, (ob k).length = 16)
    (hI : ∀ k w1 w2 v l, I k w1 → Own w1 w.heap.size v l → w1.grownBy w2 v.ownBlock → I k w2)
    (step : ∀ k w1 vb, k < m → I k w1 → w.grownBy w1 (some gw) → SlB w1 vb (blkAt text 16 k) → (∀ j, vb.ownBlock = some j → j ≠ gw ∧ j < w.heap.size) → Calls Tryz.prog 44 #[vb, .pointer (some ⟨g1, 0, none⟩), .pointer (some ⟨g2, 0, none⟩)] w1 fun e w' => ∃ v, e = .returned (.tuple #[v, .nilIface]) ∧ SlB w' v (ob k) ∧ I (k + 1) w' ∧ w1.grownBy w' (some gw)) :
    Calls Tryz.prog 43 #[q, vt, .func (.func 44) #[] #[.pointer (some ⟨g1, 0, none⟩), .pointer (some ⟨g2, 0, none⟩)]] w fun e w' =>
      ∃ v, e = .returned (.tuple #[v, .nilIface]) ∧ Own w' w.heap.size v (outTo ob m) ∧ w.grownBy w' (some gw) := by
  obtain ⟨n, hn⟩ : ∃ n, w.heap.size = n := ⟨_, rfl⟩
  have Hn := Lib.hid hn
  have HS := Lib.hid (Size_any q 1 B key w h)
  have H0 := Lib.hid h0
  have HI := Lib.hid hI
  have HST := Lib.hid step
  have HOB := Lib.hid hob
  rw [hn] at hgw HI hgt
  have HVB := Lib.hid hgt
  obtain ⟨A, ct, rfl, _, hlc, hcm, hr⟩ := hs
  have HR := Lib.hid hr
  have HT := Lib.hid ht
  obtain ⟨L, eL⟩ : ∃ L, text.length = L := ⟨_, rfl⟩
  rw [eL] at ht hlc ⊢
  have hrem' : (L : Int) % 16 = 0 := by omega
  have EL := Lib.hid eL
  clear h hr eL h0 hI step hob hgt
  go_enter Tryz.func43, Tryz.ntmps43
  go_wp2_with (go_at_call 46; refine HS.out.mono ?_; rintro e w0 ⟨rfl, rfl⟩; rw [show psize 1 = 16 from rfl])
  clear hrem'
  subst ht
  go_loopw [9, 10] (fun o i wr => ∃ (k : Nat) (vo : Value), k ≤ m ∧ i = .int .i64 ((16 * k : Nat) : Int) ∧ vo = o ∧ Own wr n vo (outTo ob k) ∧ I k wr ∧ w0.grownBy wr (some gw)) (fun _ i _ => 16 * m - (intOf i).toNat)
  case atStart => exact ⟨0, _, by omega, rfl, rfl, own_nil _ _, H0.out, grown_refl _ _⟩
  case round =>
    obtain ⟨k, o, hk, rfl, ho0, hO, hIk, hG⟩ := hrel
    subst ho0
    obtain ⟨i, ei⟩ : ∃ i, 16 * k = i := ⟨_, rfl⟩
    rw [ei]
    have HO := Lib.hid hO
    have HIk := Lib.hid hIk
    have HG := Lib.hid hG
    have EI := Lib.hid ei
    by_cases hlt : k < m
    · obtain ⟨gt, ot, rfl, hrd⟩ := HR.out (by omega)
      have hgt := HVB.out (by omega) gt rfl
      have hi1 : i < 16 * m := by omega
      have hi2 : i + 16 ≤ 16 * m := by omega
      have hi3 : i + 16 ≤ ct := by omega
      have i1 : (i : Int) < 16 * (m : Int) := by omega
      have i2 : (i : Int) + 16 ≤ 16 * (m : Int) := by omega
      have i3 : (i : Int) + 16 ≤ (ct : Int) := by omega
      have HLT := Lib.hid hlt
      have hbl : (blkAt text 16 k).length = 16 := by unfold blkAt; rw [List.length_take, List.length_drop, HT.out]; omega
      have hsb : SlB wr (.slice (some ⟨gt, ot + i, none⟩) 16 (ct - i)) (blkAt text 16 k) := by
        refine ⟨_, _, by rw [hbl], fun h => (by cases h), by omega, by omega, fun _ => ⟨gt, ot + i, rfl, ?_⟩⟩
        have h := Rd.sub (hrd.old hG (by simp; omega)) i 16 (by rw [HT.out]; omega)
        unfold blkAt; rw [ei]; exact h
      have hch := HST.out k wr _ hlt hIk hG hsb (fun j hj => by have e : gt = j := (by simpa [Value.ownBlock] using hj); rw [← e, Hn.out]; exact hgt)
      have HCH := Lib.hid hch
      have HAL := Lib.hid (outTo_len ob 16 HOB.out k)
      clear hO hIk hG ei hlt hbl hsb hch hrd
      go_wp2_with (first
        | (go_at_call 44; refine HCH.out.mono ?_; rintro e w1 ⟨v1, rfl, hN1, hI1, hG1⟩; obtain ⟨A1, c1, rfl, hc1⟩ := hN1.formc (HOB.out k))
        | (at_builtin; refine append_b hu_sl hu_u8 rfl _ _ rfl n o (outTo ob k) rfl (HO.out.kept hG1 (by
              cases ho : o.ownBlock with
              | none => exact .inl rfl
              | some j => exact .inr (by have := (HO.out.lt j ho).1; simp; omega))) _ (ob k) rfl hN1 (by rw [HOB.out k, HAL.out]; omega) (by have := HG.out.size; have := hG1.size; omega) ?_; intro v2 w2 hO2 hG2))
      go_roundw
      case rel =>
        have hobk : ∀ j, o.ownBlock = some j → n ≤ j := fun j hj => (HO.out.lt j hj).1
        have hO1 : Own w1 n o (outTo ob k) := HO.out.kept hG1 (by
              cases ho : o.ownBlock with
              | none => exact .inl rfl
              | some j => exact .inr (by have := hobk j ho; simp; omega))
        refine ⟨k + 1, _, HLT.out, by have := EI.out; congr 1; omega, rfl, hO2, HI.out (k + 1) w1 w2 o _ hI1 hO1 hG2, ?_⟩
        have hT := grown_trans HG.out hG1
        have hsz : w0.heap.size ≤ w1.heap.size := hT.size
        exact ⟨hG2.os.trans hT.os, hG2.tape.trans hT.tape, hG2.output.trans hT.output, Nat.le_trans hsz hG2.size, fun j hj hr => by
            rw [hG2.block j (by omega) (fun e => by have := hobk j e.symm; omega)]; exact hT.block j hj hr⟩
      case measure => have := EI.out; have : k < m := HLT.out; simp [intOf]; omega
    · have hkm : k = m := by omega
      have HE := Lib.hid hkm
      have i1 : ¬ (i : Int) < 16 * (m : Int) := by omega
      clear hO hIk hG ei hlt hkm
      go_wp2
      go_ret2
      refine ⟨_, rfl, ?_, HG.out⟩
      have := HO.out
      rw [HE.out] at this
      exact this
set_option maxHeartbeats 3200000 in
set_option maxRecDepth 100000 in
theorem eachC16 (q vt : Value) (B g1 g2 g3 gw m : Nat) (key text : List UInt8) (w : World) (I : Nat → World → Prop) (ob : Nat → List UInt8) (h : Cip w B q 1 key) (hs : SlB w vt text) (ht : text.length = 16 * m) (hmx : m ≤ 100000)
    (hgw : gw < w.heap.size) (hgt : 0 < m → ∀ j, vt.ownBlock = some j → j ≠ gw ∧ j < w.heap.size) (h0 : I 0 w) (hob : ∀ k, (ob k).length = 16)
    (hI : ∀ k w1 w2 v l, I k w1 → Own w1 w.heap.size v l → w1.grownBy w2 v.ownBlock → I k w2)
    (step : ∀ k w1 vb, k < m → I k w1 → w.grownBy w1 (some gw) → SlB w1 vb (blkAt text 16 k) → (∀ j, vb.ownBlock = some j → j ≠ gw ∧ j < w.heap.size) → Calls Tryz.prog 47 #[vb, .pointer (some ⟨g1, 0, none⟩), .pointer (some ⟨g2, 0, none⟩), .pointer (some ⟨g3, 0, none⟩)] w1 fun e w' => ∃ v, e = .returned (.tuple #[v, .nilIface]) ∧ SlB w' v (ob k) ∧ I (k + 1) w' ∧ w1.grownBy w' (some gw)) :
    Calls Tryz.prog 43 #[q, vt, .func (.func 47) #[] #[.pointer (some ⟨g1, 0, none⟩), .pointer (some ⟨g2, 0, none⟩), .pointer (some ⟨g3, 0, none⟩)]] w fun e w' =>
      ∃ v, e = .returned (.tuple #[v, .nilIface]) ∧ Own w' w.heap.size v (outTo ob m) ∧ w.grownBy w' (some gw) := by
  obtain ⟨n, hn⟩ : ∃ n, w.heap.size = n := ⟨_, rfl⟩
  have Hn := Lib.hid hn
  have HS := Lib.hid (Size_any q 1 B key w h)
  have H0 := Lib.hid h0
  have HI := Lib.hid hI
  have HST := Lib.hid step
  have HOB := Lib.hid hob
  rw [hn] at hgw HI hgt
  have HVB := Lib.hid hgt
  obtain ⟨A, ct, rfl, _, hlc, hcm, hr⟩ := hs
  have HR := Lib.hid hr
  have HT := Lib.hid ht
  obtain ⟨L, eL⟩ : ∃ L, text.length = L := ⟨_, rfl⟩
  rw [eL] at ht hlc ⊢
  have hrem' : (L : Int) % 16 = 0 := by omega
  have EL := Lib.hid eL
  clear h hr eL h0 hI step hob hgt
  go_enter Tryz.func43, Tryz.ntmps43
  go_wp2_with (go_at_call 46; refine HS.out.mono ?_; rintro e w0 ⟨rfl, rfl⟩; rw [show psize 1 = 16 from rfl])
  clear hrem'
  subst ht
  go_loopw [9, 10] (fun o i wr => ∃ (k : Nat) (vo : Value), k ≤ m ∧ i = .int .i64 ((16 * k : Nat) : Int) ∧ vo = o ∧ Own wr n vo (outTo ob k) ∧ I k wr ∧ w0.grownBy wr (some gw)) (fun _ i _ => 16 * m - (intOf i).toNat)
  case atStart => exact ⟨0, _, by omega, rfl, rfl, own_nil _ _, H0.out, grown_refl _ _⟩
  case round =>
    obtain ⟨k, o, hk, rfl, ho0, hO, hIk, hG⟩ := hrel
    subst ho0
    obtain ⟨i, ei⟩ : ∃ i, 16 * k = i := ⟨_, rfl⟩
    rw [ei]
    have HO := Lib.hid hO
    have HIk := Lib.hid hIk
    have HG := Lib.hid hG
    have EI := Lib.hid ei
    by_cases hlt : k < m
    · obtain ⟨gt, ot, rfl, hrd⟩ := HR.out (by omega)
      have hgt := HVB.out (by omega) gt rfl
      have hi1 : i < 16 * m := by omega
      have hi2 : i + 16 ≤ 16 * m := by omega
      have hi3 : i + 16 ≤ ct := by omega
      have i1 : (i : Int) < 16 * (m : Int) := by omega
      have i2 : (i : Int) + 16 ≤ 16 * (m : Int) := by omega
      have i3 : (i : Int) + 16 ≤ (ct : Int) := by omega
      have HLT := Lib.hid hlt
      have hbl : (blkAt text 16 k).length = 16 := by unfold blkAt; rw [List.length_take, List.length_drop, HT.out]; omega
      have hsb : SlB wr (.slice (some ⟨gt, ot + i, none⟩) 16 (ct - i)) (blkAt text 16 k) := by
        refine ⟨_, _, by rw [hbl], fun h => (by cases h), by omega, by omega, fun _ => ⟨gt, ot + i, rfl, ?_⟩⟩
        have h := Rd.sub (hrd.old hG (by simp; omega)) i 16 (by rw [HT.out]; omega)
        unfold blkAt; rw [ei]; exact h
      have hch := HST.out k wr _ hlt hIk hG hsb (fun j hj => by have e : gt = j := (by simpa [Value.ownBlock] using hj); rw [← e, Hn.out]; exact hgt)
      have HCH := Lib.hid hch
      have HAL := Lib.hid (outTo_len ob 16 HOB.out k)
      clear hO hIk hG ei hlt hbl hsb hch hrd
      go_wp2_with (first
        | (go_at_call 47; refine HCH.out.mono ?_; rintro e w1 ⟨v1, rfl, hN1, hI1, hG1⟩; obtain ⟨A1, c1, rfl, hc1⟩ := hN1.formc (HOB.out k))
        | (at_builtin; refine append_b hu_sl hu_u8 rfl _ _ rfl n o (outTo ob k) rfl (HO.out.kept hG1 (by
              cases ho : o.ownBlock with
              | none => exact .inl rfl
              | some j => exact .inr (by have := (HO.out.lt j ho).1; simp; omega))) _ (ob k) rfl hN1 (by rw [HOB.out k, HAL.out]; omega) (by have := HG.out.size; have := hG1.size; omega) ?_; intro v2 w2 hO2 hG2))
      go_roundw
      case rel =>
        have hobk : ∀ j, o.ownBlock = some j → n ≤ j := fun j hj => (HO.out.lt j hj).1
        have hO1 : Own w1 n o (outTo ob k) := HO.out.kept hG1 (by
              cases ho : o.ownBlock with
              | none => exact .inl rfl
              | some j => exact .inr (by have := hobk j ho; simp; omega))
        refine ⟨k + 1, _, HLT.out, by have := EI.out; congr 1; omega, rfl, hO2, HI.out (k + 1) w1 w2 o _ hI1 hO1 hG2, ?_⟩
        have hT := grown_trans HG.out hG1
        have hsz : w0.heap.size ≤ w1.heap.size := hT.size
        exact ⟨hG2.os.trans hT.os, hG2.tape.trans hT.tape, hG2.output.trans hT.output, Nat.le_trans hsz hG2.size, fun j hj hr => by
            rw [hG2.block j (by omega) (fun e => by have := hobk j e.symm; omega)]; exact hT.block j hj hr⟩
      case measure => have := EI.out; have : k < m := HLT.out; simp [intOf]; omega
    · have hkm : k = m := by omega
      have HE := Lib.hid hkm
      have i1 : ¬ (i : Int) < 16 * (m : Int) := by omega
      clear hO hIk hG ei hlt hkm
      go_wp2
      go_ret2
      refine ⟨_, rfl, ?_, HG.out⟩
      have := HO.out
      rw [HE.out] at this
      exact this
set_option maxHeartbeats 3200000 in
set_option maxRecDepth 100000 in
theorem eachA8 (q vt : Value) (B g1 g2 g3 gw m : Nat) (key text : List UInt8) (w : World) (I : Nat → World → Prop) (ob : Nat → List UInt8) (h : Cip w B q 2 key) (hs : SlB w vt text) (ht : text.length = 8 * m) (hmx : m ≤ 100000)
    (hgw : gw < w.heap.size) (hgt : 0 < m → ∀ j, vt.ownBlock = some j → j ≠ gw ∧ j < w.heap.size) (h0 : I 0 w) (hob : ∀ k, (ob k).length = 8)
    (hI : ∀ k w1 w2 v l, I k w1 → Own w1 w.heap.size v l → w1.grownBy w2 v.ownBlock → I k w2)
    (step : ∀ k w1 vb, k < m → I k w1 → w.grownBy w1 (some gw) → SlB w1 vb (blkAt text 8 k) → (∀ j, vb.ownBlock = some j → j ≠ gw ∧ j < w.heap.size) → Calls Tryz.prog 44 #[vb, .pointer (some ⟨g1, 0, none⟩), .pointer (some ⟨g2, 0, none⟩)] w1 fun e w' => ∃ v, e = .returned (.tuple #[v, .nilIface]) ∧ SlB w' v (ob k) ∧ I (k + 1) w' ∧ w1.grownBy w' (some gw)) :
    Calls Tryz.prog 43 #[q, vt, .func (.func 44) #[] #[.pointer (some ⟨g1, 0, none⟩), .pointer (some ⟨g2, 0, none⟩)]] w fun e w' =>
      ∃ v, e = .returned (.tuple #[v, .nilIface]) ∧ Own w' w.heap.size v (outTo ob m) ∧ w.grownBy w' (some gw) := by
  obtain ⟨n, hn⟩ : ∃ n, w.heap.size = n := ⟨_, rfl⟩
  have Hn := Lib.hid hn
  have HS := Lib.hid (Size_any q 2 B key w h)
  have H0 := Lib.hid h0
  have HI := Lib.hid hI
  have HST := Lib.hid step
  have HOB := Lib.hid hob
  rw [hn] at hgw HI hgt
  have HVB := Lib.hid hgt
  obtain ⟨A, ct, rfl, _, hlc, hcm, hr⟩ := hs
  have HR := Lib.hid hr
  have HT := Lib.hid ht
  obtain ⟨L, eL⟩ : ∃ L, text.length = L := ⟨_, rfl⟩
  rw [eL] at ht hlc ⊢
  have hrem' : (L : Int) % 8 = 0 := by omega
  have EL := Lib.hid eL
  clear h hr eL h0 hI step hob hgt
  go_enter Tryz.func43, Tryz.ntmps43
  go_wp2_with (go_at_call 46; refine HS.out.mono ?_; rintro e w0 ⟨rfl, rfl⟩; rw [show psize 2 = 8 from rfl])
  clear hrem'
  subst ht
  go_loopw [9, 10] (fun o i wr => ∃ (k : Nat) (vo : Value), k ≤ m ∧ i = .int .i64 ((8 * k : Nat) : Int) ∧ vo = o ∧ Own wr n vo (outTo ob k) ∧ I k wr ∧ w0.grownBy wr (some gw)) (fun _ i _ => 8 * m - (intOf i).toNat)
  case atStart => exact ⟨0, _, by omega, rfl, rfl, own_nil _ _, H0.out, grown_refl _ _⟩
  case round =>
    obtain ⟨k, o, hk, rfl, ho0, hO, hIk, hG⟩ := hrel
    subst ho0
    obtain ⟨i, ei⟩ : ∃ i, 8 * k = i := ⟨_, rfl⟩
    rw [ei]
    have HO := Lib.hid hO
    have HIk := Lib.hid hIk
    have HG := Lib.hid hG
    have EI := Lib.hid ei
    by_cases hlt : k < m
    · obtain ⟨gt, ot, rfl, hrd⟩ := HR.out (by omega)
      have hgt := HVB.out (by omega) gt rfl
      have hi1 : i < 8 * m := by omega
      have hi2 : i + 8 ≤ 8 * m := by omega
      have hi3 : i + 8 ≤ ct := by omega
      have i1 : (i : Int) < 8 * (m : Int) := by omega
      have i2 : (i : Int) + 8 ≤ 8 * (m : Int) := by omega
      have i3 : (i : Int) + 8 ≤ (ct : Int) := by omega
      have HLT := Lib.hid hlt
      have hbl : (blkAt text 8 k).length = 8 := by unfold blkAt; rw [List.length_take, List.length_drop, HT.out]; omega
      have hsb : SlB wr (.slice (some ⟨gt, ot + i, none⟩) 8 (ct - i)) (blkAt text 8 k) := by
        refine ⟨_, _, by rw [hbl], fun h => (by cases h), by omega, by omega, fun _ => ⟨gt, ot + i, rfl, ?_⟩⟩
        have h := Rd.sub (hrd.old hG (by simp; omega)) i 8 (by rw [HT.out]; omega)
        unfold blkAt; rw [ei]; exact h
      have hch := HST.out k wr _ hlt hIk hG hsb (fun j hj => by have e : gt = j := (by simpa [Value.ownBlock] using hj); rw [← e, Hn.out]; exact hgt)
      have HCH := Lib.hid hch
      have HAL := Lib.hid (outTo_len ob 8 HOB.out k)
      clear hO hIk hG ei hlt hbl hsb hch hrd
      go_wp2_with (first
        | (go_at_call 44; refine HCH.out.mono ?_; rintro e w1 ⟨v1, rfl, hN1, hI1, hG1⟩; obtain ⟨A1, c1, rfl, hc1⟩ := hN1.formc (HOB.out k))
        | (at_builtin; refine append_b hu_sl hu_u8 rfl _ _ rfl n o (outTo ob k) rfl (HO.out.kept hG1 (by
              cases ho : o.ownBlock with
              | none => exact .inl rfl
              | some j => exact .inr (by have := (HO.out.lt j ho).1; simp; omega))) _ (ob k) rfl hN1 (by rw [HOB.out k, HAL.out]; omega) (by have := HG.out.size; have := hG1.size; omega) ?_; intro v2 w2 hO2 hG2))
      go_roundw
      case rel =>
        have hobk : ∀ j, o.ownBlock = some j → n ≤ j := fun j hj => (HO.out.lt j hj).1
        have hO1 : Own w1 n o (outTo ob k) := HO.out.kept hG1 (by
              cases ho : o.ownBlock with
              | none => exact .inl rfl
              | some j => exact .inr (by have := hobk j ho; simp; omega))
        refine ⟨k + 1, _, HLT.out, by have := EI.out; congr 1; omega, rfl, hO2, HI.out (k + 1) w1 w2 o _ hI1 hO1 hG2, ?_⟩
        have hT := grown_trans HG.out hG1
        have hsz : w0.heap.size ≤ w1.heap.size := hT.size
        exact ⟨hG2.os.trans hT.os, hG2.tape.trans hT.tape, hG2.output.trans hT.output, Nat.le_trans hsz hG2.size, fun j hj hr => by
            rw [hG2.block j (by omega) (fun e => by have := hobk j e.symm; omega)]; exact hT.block j hj hr⟩
      case measure => have := EI.out; have : k < m := HLT.out; simp [intOf]; omega
    · have hkm : k = m := by omega
      have HE := Lib.hid hkm
      have i1 : ¬ (i : Int) < 8 * (m : Int) := by omega
      clear hO hIk hG ei hlt hkm
      go_wp2
      go_ret2
      refine ⟨_, rfl, ?_, HG.out⟩
      have := HO.out
      rw [HE.out] at this
      exact this
set_option maxHeartbeats 3200000 in
set_option maxRecDepth 100000 in
theorem eachC8 (q vt : Value) (B g1 g2 g3 gw m : Nat) (key text : List UInt8) (w : World) (I : Nat → World → Prop) (ob : Nat → List UInt8) (h : Cip w B q 2 key) (hs : SlB w vt text) (ht : text.length = 8 * m) (hmx : m ≤ 100000)
    (hgw : gw < w.heap.size) (hgt : 0 < m → ∀ j, vt.ownBlock = some j → j ≠ gw ∧ j < w.heap.size) (h0 : I 0 w) (hob : ∀ k, (ob k).length = 8)
    (hI : ∀ k w1 w2 v l, I k w1 → Own w1 w.heap.size v l → w1.grownBy w2 v.ownBlock → I k w2)
    (step : ∀ k w1 vb, k < m → I k w1 → w.grownBy w1 (some gw) → SlB w1 vb (blkAt text 8 k) → (∀ j, vb.ownBlock = some j → j ≠ gw ∧ j < w.heap.size) → Calls Tryz.prog 47 #[vb, .pointer (some ⟨g1, 0, none⟩), .pointer (some ⟨g2, 0, none⟩), .pointer (some ⟨g3, 0, none⟩)] w1 fun e w' => ∃ v, e = .returned (.tuple #[v, .nilIface]) ∧ SlB w' v (ob k) ∧ I (k + 1) w' ∧ w1.grownBy w' (some gw)) :
    Calls Tryz.prog 43 #[q, vt, .func (.func 47) #[] #[.pointer (some ⟨g1, 0, none⟩), .pointer (some ⟨g2, 0, none⟩), .pointer (some ⟨g3, 0, none⟩)]] w fun e w' =>
      ∃ v, e = .returned (.tuple #[v, .nilIface]) ∧ Own w' w.heap.size v (outTo ob m) ∧ w.grownBy w' (some gw) := by
  obtain ⟨n, hn⟩ : ∃ n, w.heap.size = n := ⟨_, rfl⟩
  have Hn := Lib.hid hn
  have HS := Lib.hid (Size_any q 2 B key w h)
  have H0 := Lib.hid h0
  have HI := Lib.hid hI
  have HST := Lib.hid step
  have HOB := Lib.hid hob
  rw [hn] at hgw HI hgt
  have HVB := Lib.hid hgt
  obtain ⟨A, ct, rfl, _, hlc, hcm, hr⟩ := hs
  have HR := Lib.hid hr
  have HT := Lib.hid ht
  obtain ⟨L, eL⟩ : ∃ L, text.length = L := ⟨_, rfl⟩
  rw [eL] at ht hlc ⊢
  have hrem' : (L : Int) % 8 = 0 := by omega
  have EL := Lib.hid eL
  clear h hr eL h0 hI step hob hgt
  go_enter Tryz.func43, Tryz.ntmps43
  go_wp2_with (go_at_call 46; refine HS.out.mono ?_; rintro e w0 ⟨rfl, rfl⟩; rw [show psize 2 = 8 from rfl])
  clear hrem'
  subst ht
  go_loopw [9, 10] (fun o i wr => ∃ (k : Nat) (vo : Value), k ≤ m ∧ i = .int .i64 ((8 * k : Nat) : Int) ∧ vo = o ∧ Own wr n vo (outTo ob k) ∧ I k wr ∧ w0.grownBy wr (some gw)) (fun _ i _ => 8 * m - (intOf i).toNat)
  case atStart => exact ⟨0, _, by omega, rfl, rfl, own_nil _ _, H0.out, grown_refl _ _⟩
  case round =>
    obtain ⟨k, o, hk, rfl, ho0, hO, hIk, hG⟩ := hrel
    subst ho0
    obtain ⟨i, ei⟩ : ∃ i, 8 * k = i := ⟨_, rfl⟩
    rw [ei]
    have HO := Lib.hid hO
    have HIk := Lib.hid hIk
    have HG := Lib.hid hG
    have EI := Lib.hid ei
    by_cases hlt : k < m
    · obtain ⟨gt, ot, rfl, hrd⟩ := HR.out (by omega)
      have hgt := HVB.out (by omega) gt rfl
      have hi1 : i < 8 * m := by omega
      have hi2 : i + 8 ≤ 8 * m := by omega
      have hi3 : i + 8 ≤ ct := by omega
      have i1 : (i : Int) < 8 * (m : Int) := by omega
      have i2 : (i : Int) + 8 ≤ 8 * (m : Int) := by omega
      have i3 : (i : Int) + 8 ≤ (ct : Int) := by omega
      have HLT := Lib.hid hlt
      have hbl : (blkAt text 8 k).length = 8 := by unfold blkAt; rw [List.length_take, List.length_drop, HT.out]; omega
      have hsb : SlB wr (.slice (some ⟨gt, ot + i, none⟩) 8 (ct - i)) (blkAt text 8 k) := by
        refine ⟨_, _, by rw [hbl], fun h => (by cases h), by omega, by omega, fun _ => ⟨gt, ot + i, rfl, ?_⟩⟩
        have h := Rd.sub (hrd.old hG (by simp; omega)) i 8 (by rw [HT.out]; omega)
        unfold blkAt; rw [ei]; exact h
      have hch := HST.out k wr _ hlt hIk hG hsb (fun j hj => by have e : gt = j := (by simpa [Value.ownBlock] using hj); rw [← e, Hn.out]; exact hgt)
      have HCH := Lib.hid hch
      have HAL := Lib.hid (outTo_len ob 8 HOB.out k)
      clear hO hIk hG ei hlt hbl hsb hch hrd
      go_wp2_with (first
        | (go_at_call 47; refine HCH.out.mono ?_; rintro e w1 ⟨v1, rfl, hN1, hI1, hG1⟩; obtain ⟨A1, c1, rfl, hc1⟩ := hN1.formc (HOB.out k))
        | (at_builtin; refine append_b hu_sl hu_u8 rfl _ _ rfl n o (outTo ob k) rfl (HO.out.kept hG1 (by
              cases ho : o.ownBlock with
              | none => exact .inl rfl
              | some j => exact .inr (by have := (HO.out.lt j ho).1; simp; omega))) _ (ob k) rfl hN1 (by rw [HOB.out k, HAL.out]; omega) (by have := HG.out.size; have := hG1.size; omega) ?_; intro v2 w2 hO2 hG2))
      go_roundw
      case rel =>
        have hobk : ∀ j, o.ownBlock = some j → n ≤ j := fun j hj => (HO.out.lt j hj).1
        have hO1 : Own w1 n o (outTo ob k) := HO.out.kept hG1 (by
              cases ho : o.ownBlock with
              | none => exact .inl rfl
              | some j => exact .inr (by have := hobk j ho; simp; omega))
        refine ⟨k + 1, _, HLT.out, by have := EI.out; congr 1; omega, rfl, hO2, HI.out (k + 1) w1 w2 o _ hI1 hO1 hG2, ?_⟩
        have hT := grown_trans HG.out hG1
        have hsz : w0.heap.size ≤ w1.heap.size := hT.size
        exact ⟨hG2.os.trans hT.os, hG2.tape.trans hT.tape, hG2.output.trans hT.output, Nat.le_trans hsz hG2.size, fun j hj hr => by
            rw [hG2.block j (by omega) (fun e => by have := hobk j e.symm; omega)]; exact hT.block j hj hr⟩
      case measure => have := EI.out; have : k < m := HLT.out; simp [intOf]; omega
    · have hkm : k = m := by omega
      have HE := Lib.hid hkm
      have i1 : ¬ (i : Int) < 8 * (m : Int) := by omega
      clear hO hIk hG ei hlt hkm
      go_wp2
      go_ret2
      refine ⟨_, rfl, ?_, HG.out⟩
      have := HO.out
      rw [HE.out] at this
      exact this
end Go.Proofs.YtbbfjlnkhenbiaaGreatDoor
set_option linter.unusedVariables false
set_option linter.unusedSimpArgs false
namespace Lk
open Go Go.RowKit
theorem Cip.rows {w w1 : World} {B : Nat} {row : Option Nat} {q : Value} {kind : Nat} {key : List UInt8} (h : Cip w B q kind key) (hG : w.grownBy w1 row) (hb : ∀ j, row = some j → B ≤ j) : Cip w1 B q kind key := by
  cases row with
  | none => exact (h.row (g3 := B) (grown_weak hG) (Nat.le_refl _))
  | some g3 => exact h.row hG (hb g3 rfl)
theorem blkAt_len (text : List UInt8) (n m k : Nat) (ht : text.length = n * m) (hk : k < m) : (blkAt text n k).length = n := by
  have h : n * (k + 1) ≤ n * m := Nat.mul_le_mul_left n hk
  rw [Nat.mul_add] at h
  unfold blkAt; rw [List.length_take, List.length_drop, ht]; omega
def aloneTo (kind : Nat) (key text : List UInt8) (back : Bool) (m : Nat) : List UInt8 := outTo (fun k => pdo kind key (blkAt text (psize kind) k) back) m
def lastB (start text : List UInt8) (n : Nat) : Nat → List UInt8
  | 0 => start
  | k + 1 => blkAt text n k
def unchTo (kind : Nat) (key start text : List UInt8) (m : Nat) : List UInt8 := outTo (fun k => pxor (pdo kind key (blkAt text (psize kind) k) true) (lastB start text (psize kind) k)) m
theorem One.rows {w w1 : World} {g T : Nat} {v : Value} {row : Option Nat} (h : One w g T v) (hG : w.grownBy w1 row) (hne : ∀ j, row = some j → g < j) : One w1 g T v := h.old hG (fun e => absurd (hne g e) (Nat.lt_irrefl _))
end Lk
namespace Go.Proofs.YtbbfjlnkhenbiaaGreatDoor
open Go.RowKit Lk
set_option maxRecDepth 100000 in
theorem aclo_any (q vb : Value) (B kind g1 g2 : Nat) (key b : List UInt8) (back : Bool) (w : World) (hk : kind = 1 ∨ kind = 2) (h : Cip w B q kind key) (hB : B ≤ w.heap.size) (hf : pfits kind key.length = true) (hs : SlB w vb b) (hb : b.length = psize kind)
    (h1 : One w g1 25 q) (h2 : One w g2 4 (.bool back)) :
    Calls Tryz.prog 44 #[vb, .pointer (some ⟨g1, 0, none⟩), .pointer (some ⟨g2, 0, none⟩)] w fun e w' => ∃ v, e = .returned (.tuple #[v, .nilIface]) ∧ NewA w' w.heap.size v (pdo kind key b back) ∧ Below w.heap.size w w' := by
  have HD := Lib.hid (Do_any q vb B kind key b back w hk h hB hf hs hb)
  have c1 := h1.cell
  have c2 := h2.cell
  have hq : ∃ gq, q = .pointer (some ⟨gq, 0, none⟩) := by obtain ⟨gq, _, _, e, _⟩ := h; exact ⟨gq, e⟩
  obtain ⟨gq, rfl⟩ := hq
  obtain ⟨A, c, rfl, _⟩ := hs
  clear h hf h1 h2 hb hk hB
  go_enter Tryz.func44, Tryz.ntmps44
  go_wp2_with (go_at_call 45; refine HD.out.mono ?_; rintro e w1 ⟨v, rfl, hN, hL⟩)
  go_ret2
  exact ⟨v, rfl, hN, hL⟩
set_option maxHeartbeats 800000 in
set_option maxRecDepth 100000 in
theorem cbk_any (q vb vl : Value) (B kind g1 g2 g3 : Nat) (key b last : List UInt8) (w : World) (hk : kind = 1 ∨ kind = 2) (h : Cip w B q kind key) (hB : B ≤ w.heap.size) (hf : pfits kind key.length = true) (hs : SlB w vb b) (hb : b.length = psize kind) (hsb : ∀ j, vb.ownBlock = some j → j ≠ g3)
    (hv : SlB w vl last) (hl : last.length = psize kind) (hvb : ∀ j, vl.ownBlock = some j → j ≠ g3) (h1 : One w g1 4 (.bool true)) (h2 : One w g2 25 q) (h3 : One w g3 22 vl) :
    Calls Tryz.prog 47 #[vb, .pointer (some ⟨g1, 0, none⟩), .pointer (some ⟨g2, 0, none⟩), .pointer (some ⟨g3, 0, none⟩)] w fun e w' =>
      ∃ v, e = .returned (.tuple #[v, .nilIface]) ∧ SlB w' v (pxor (pdo kind key b true) last) ∧ One w' g3 22 vb ∧ w.grownBy w' (some g3) := by
  have hps := psize_le kind
  have HD := Lib.hid (Do_any q vb B kind key b true w hk h hB hf hs hb)
  have hdl : (pdo kind key b true).length = psize kind := pdo_len kind _ _ _ hk
  have HX := Lib.hid (show ∀ (w1 : World) (v1 : Value), SlB w1 v1 (pdo kind key b true) → SlB w1 vl last → _ from fun w1 v1 a1 a2 => Xor_own v1 vl (pdo kind key b true) last w1 a1 a2 (by omega) (by omega))
  have HDL := Lib.hid (show (pdo kind key b true).length ≤ maxLen by rw [hdl]; rcases hps with e | e <;> rw [e] <;> decide)
  have HS := Lib.hid hs
  have HV := Lib.hid hv
  have HSB := Lib.hid hsb
  have HVB := Lib.hid hvb
  have hq : ∃ gq, q = .pointer (some ⟨gq, 0, none⟩) := by obtain ⟨gq, _, _, e, _⟩ := h; exact ⟨gq, e⟩
  obtain ⟨gq, rfl⟩ := hq
  have hvl : ∃ A m c, vl = .slice A m c := by obtain ⟨A, c, e, _⟩ := hv; exact ⟨A, _, c, e⟩
  obtain ⟨Al, ml, cl, rfl⟩ := hvl
  have hvb' : ∃ A m c, vb = .slice A m c := by obtain ⟨A, c, e, _⟩ := hs; exact ⟨A, _, c, e⟩
  obtain ⟨Ab, mb, cb, rfl⟩ := hvb'
  have c1 := h1.cell
  have c2 := h2.cell
  have c3 := h3.cell
  have H3 := Lib.hid h3
  clear h1 h2 h3 h hs hv hf hb hl hps hdl hsb hvb
  go_enter Tryz.func47, Tryz.ntmps47
  go_wp2_with (first
    | (go_at_call 45; refine HD.out.mono ?_; rintro e w1 ⟨v1, rfl, hN1, hL1⟩; have HN1 := Lib.hid hN1; have HL1 := Lib.hid hL1; have h31 := H3.out.under2 hL1; have H31 := Lib.hid h31; have c31 := h31.cell; have f31 := h31.free; clear hN1 hL1 h31)
    | (go_at_call 48; have hG := grown_set (grown_refl w1 (some g3)) 0 (.slice Ab mb cb); have HG := Lib.hid hG; clear hG; refine (HX.out (w1.setCell ⟨g3, 0, none⟩ (.slice Ab mb cb)) v1 (by obtain ⟨g, T, hT, e, hg, hBl⟩ := HN1.out; have := H3.out.lt; exact New.slB ⟨g, T, e, Nat.zero_le _, hBl.old HG.out (by simp; omega)⟩ HDL.out) ((HV.out.below HL1.out).old HG.out (by cases ho : (Value.slice Al ml cl).ownBlock with | none => exact .inl rfl | some j => exact .inr (fun e => HVB.out j ho (Option.some.inj e))))).mono ?_; rintro e w3 ⟨v3, rfl, hO3, hL3⟩))
  go_ret2
  have hg3 : g3 < (w1.setCell ⟨g3, 0, none⟩ (Value.slice Ab mb cb)).heap.size := by rw [World.size_setCell]; exact H31.out.lt
  exact ⟨_, rfl, hO3.slB, (H31.out.set _).below hL3 hg3, grown_trans (grown_trans (grown_of_below HL1.out _) HG.out) (grown_of_below hL3 _)⟩
set_option maxHeartbeats 1600000 in
set_option maxRecDepth 100000 in
theorem Alone16 (q vt : Value) (B m : Nat) (key text : List UInt8) (back : Bool) (w : World) (h : Cip w B q 1 key) (hB : B ≤ w.heap.size) (hf : pfits 1 key.length = true) (hs : SlB w vt text) (ht : text.length = 16 * m) (hmx : m ≤ 100000) :
    Calls Tryz.prog 12 #[q, vt, .bool back] w fun e w' => ∃ v, e = .returned (.tuple #[v, .nilIface]) ∧ Own w' w.heap.size v (aloneTo 1 key text back m) ∧ Below w.heap.size w w' := by
  obtain ⟨N, hN⟩ : ∃ N, w.heap.size = N := ⟨_, rfl⟩
  have HN := Lib.hid hN
  obtain ⟨A, c, evt, _, b1, b2, _⟩ := id hs
  rw [ht] at evt b1
  subst evt
  have HC := Lib.hid h
  have HS := Lib.hid hs
  have HF := Lib.hid hf
  have HT := Lib.hid ht
  have hq : ∃ gq, q = .pointer (some ⟨gq, 0, none⟩) := by obtain ⟨gq, _, _, e, _⟩ := h; exact ⟨gq, e⟩
  obtain ⟨gq, rfl⟩ := hq
  have hvb : 0 < m → ∀ j, (Value.slice A (16 * m) c).ownBlock = some j → j < N := fun hm j hj => by rw [← hN]; exact hs.lt (by rw [ht]; omega) j hj
  have HVB := Lib.hid hvb
  have HE := Lib.hid (fun (w1 : World) (hL : Below N w w1) (hz : w1.heap.size = N + 1 + 1) (i1 : One w1 N 25 (.pointer (some ⟨gq, 0, none⟩))) (i2 : One w1 (N + 1) 4 (.bool back)) =>
    eachA16 (.pointer (some ⟨gq, 0, none⟩)) (.slice A (16 * m) c) B N (N + 1) 0 (N + 1) m key text w1 (fun _ w' => One w' N 25 (.pointer (some ⟨gq, 0, none⟩)) ∧ One w' (N + 1) 4 (.bool back) ∧ Cip w' B (.pointer (some ⟨gq, 0, none⟩)) 1 key) (fun k => pdo 1 key (blkAt text 16 k) back)
      (HC.out.below hL (by rw [← HN.out]; exact hB)) (HS.out.below (by rw [HN.out]; exact hL)) HT.out hmx (by omega) (fun hm j hj => by have := HVB.out hm j hj; omega) ⟨i1, i2, HC.out.below hL (by rw [← HN.out]; exact hB)⟩ (fun _ => pdo_len 1 _ _ _ (by decide))
      (fun _ a b v l ⟨a1, a2, a3⟩ hO hG => ⟨a1.rows hG (fun j hj => by have := (hO.lt j hj).1; omega), a2.rows hG (fun j hj => by have := (hO.lt j hj).1; omega), a3.rows hG (fun j hj => by have := (hO.lt j hj).1; omega)⟩)
      (fun k w2 vb hk ⟨a1, a2, a3⟩ hG hsb _ => (aclo_any _ vb B 1 N (N + 1) key _ back w2 (by decide) a3 (by have := hG.size; omega) HF.out hsb (blkAt_len text 16 m k HT.out hk) a1 a2).mono fun e w3 ⟨v, he, hN3, hL3⟩ =>
        ⟨v, he, hN3.new.slB (by rw [pdo_len 1 _ _ _ (by decide)]; decide), ⟨a1.under2 hL3, a2.under2 hL3, a3.below hL3 (by have := hG.size; omega)⟩, grown_of_below hL3 _⟩))
  clear h hs hf hvb ht
  go_enter Tryz.func12, Tryz.ntmps12
  go_wp2_with (first
    | ((with_reducible show wpList _ _ _ _ _ w); refine box_one (w := w) rfl 25 _ rfl (.pointer (some ⟨gq, 0, none⟩)) rfl rfl ?_; intro w0 h10 hG0 hz0; rw [hN] at h10 hz0 ⊢)
    | ((with_reducible show wpList _ _ _ _ _ w0); refine box_one (w := w0) rfl 4 _ rfl (.bool back) rfl rfl ?_; intro w1 h21 hG1 hz1; rw [hz0] at h21 hz1 ⊢; have hL1 : Below N w w1 := (below_none (below_none (Below.refl N w) (by omega) hG0) (by omega) hG1); have h11 := h10.old hG1 (by simp); have c11 := h11.cell)
    | (go_at_call 43; refine (HE.out w1 hL1 hz1 h11 h21).mono ?_; rintro e w4 ⟨v4, rfl, hO4, hG4⟩))
  go_ret2
  refine ⟨_, rfl, hO4.lower (by omega), ?_⟩
  rw [hN]
  exact below_new hL1 (by omega) hG4 (by omega)
set_option maxHeartbeats 1600000 in
set_option maxRecDepth 100000 in
theorem Alone8 (q vt : Value) (B m : Nat) (key text : List UInt8) (back : Bool) (w : World) (h : Cip w B q 2 key) (hB : B ≤ w.heap.size) (hf : pfits 2 key.length = true) (hs : SlB w vt text) (ht : text.length = 8 * m) (hmx : m ≤ 100000) :
    Calls Tryz.prog 12 #[q, vt, .bool back] w fun e w' => ∃ v, e = .returned (.tuple #[v, .nilIface]) ∧ Own w' w.heap.size v (aloneTo 2 key text back m) ∧ Below w.heap.size w w' := by
  obtain ⟨N, hN⟩ : ∃ N, w.heap.size = N := ⟨_, rfl⟩
  have HN := Lib.hid hN
  obtain ⟨A, c, evt, _, b1, b2, _⟩ := id hs
  rw [ht] at evt b1
  subst evt
  have HC := Lib.hid h
  have HS := Lib.hid hs
  have HF := Lib.hid hf
  have HT := Lib.hid ht
  have hq : ∃ gq, q = .pointer (some ⟨gq, 0, none⟩) := by obtain ⟨gq, _, _, e, _⟩ := h; exact ⟨gq, e⟩
  obtain ⟨gq, rfl⟩ := hq
  have hvb : 0 < m → ∀ j, (Value.slice A (8 * m) c).ownBlock = some j → j < N := fun hm j hj => by rw [← hN]; exact hs.lt (by rw [ht]; omega) j hj
  have HVB := Lib.hid hvb
  have HE := Lib.hid (fun (w1 : World) (hL : Below N w w1) (hz : w1.heap.size = N + 1 + 1) (i1 : One w1 N 25 (.pointer (some ⟨gq, 0, none⟩))) (i2 : One w1 (N + 1) 4 (.bool back)) =>
    eachA8 (.pointer (some ⟨gq, 0, none⟩)) (.slice A (8 * m) c) B N (N + 1) 0 (N + 1) m key text w1 (fun _ w' => One w' N 25 (.pointer (some ⟨gq, 0, none⟩)) ∧ One w' (N + 1) 4 (.bool back) ∧ Cip w' B (.pointer (some ⟨gq, 0, none⟩)) 2 key) (fun k => pdo 2 key (blkAt text 8 k) back)
      (HC.out.below hL (by rw [← HN.out]; exact hB)) (HS.out.below (by rw [HN.out]; exact hL)) HT.out hmx (by omega) (fun hm j hj => by have := HVB.out hm j hj; omega) ⟨i1, i2, HC.out.below hL (by rw [← HN.out]; exact hB)⟩ (fun _ => pdo_len 2 _ _ _ (by decide))
      (fun _ a b v l ⟨a1, a2, a3⟩ hO hG => ⟨a1.rows hG (fun j hj => by have := (hO.lt j hj).1; omega), a2.rows hG (fun j hj => by have := (hO.lt j hj).1; omega), a3.rows hG (fun j hj => by have := (hO.lt j hj).1; omega)⟩)
      (fun k w2 vb hk ⟨a1, a2, a3⟩ hG hsb _ => (aclo_any _ vb B 2 N (N + 1) key _ back w2 (by decide) a3 (by have := hG.size; omega) HF.out hsb (blkAt_len text 8 m k HT.out hk) a1 a2).mono fun e w3 ⟨v, he, hN3, hL3⟩ =>
        ⟨v, he, hN3.new.slB (by rw [pdo_len 2 _ _ _ (by decide)]; decide), ⟨a1.under2 hL3, a2.under2 hL3, a3.below hL3 (by have := hG.size; omega)⟩, grown_of_below hL3 _⟩))
  clear h hs hf hvb ht
  go_enter Tryz.func12, Tryz.ntmps12
  go_wp2_with (first
    | ((with_reducible show wpList _ _ _ _ _ w); refine box_one (w := w) rfl 25 _ rfl (.pointer (some ⟨gq, 0, none⟩)) rfl rfl ?_; intro w0 h10 hG0 hz0; rw [hN] at h10 hz0 ⊢)
    | ((with_reducible show wpList _ _ _ _ _ w0); refine box_one (w := w0) rfl 4 _ rfl (.bool back) rfl rfl ?_; intro w1 h21 hG1 hz1; rw [hz0] at h21 hz1 ⊢; have hL1 : Below N w w1 := (below_none (below_none (Below.refl N w) (by omega) hG0) (by omega) hG1); have h11 := h10.old hG1 (by simp); have c11 := h11.cell)
    | (go_at_call 43; refine (HE.out w1 hL1 hz1 h11 h21).mono ?_; rintro e w4 ⟨v4, rfl, hO4, hG4⟩))
  go_ret2
  refine ⟨_, rfl, hO4.lower (by omega), ?_⟩
  rw [hN]
  exact below_new hL1 (by omega) hG4 (by omega)
set_option maxHeartbeats 1600000 in
set_option maxRecDepth 100000 in
theorem Unchained16 (q vt vs : Value) (B m : Nat) (key start text : List UInt8) (w : World) (h : Cip w B q 1 key) (hB : B ≤ w.heap.size) (hf : pfits 1 key.length = true) (hs : SlB w vt text) (ht : text.length = 16 * m) (hmx : m ≤ 100000)
    (hv : SlB w vs start) (hl : start.length = 16) :
    Calls Tryz.prog 13 #[q, vs, vt, .bool true] w fun e w' => ∃ v, e = .returned (.tuple #[v, .nilIface]) ∧ Own w' w.heap.size v (unchTo 1 key start text m) ∧ Below w.heap.size w w' := by
  obtain ⟨N, hN⟩ : ∃ N, w.heap.size = N := ⟨_, rfl⟩
  have HN := Lib.hid hN
  obtain ⟨A, c, evt, _, b1, b2, _⟩ := id hs
  rw [ht] at evt b1
  subst evt
  have HC := Lib.hid h
  have HS := Lib.hid hs
  have HV := Lib.hid hv
  have HF := Lib.hid hf
  have HT := Lib.hid ht
  have HSL := Lib.hid hl
  have hq : ∃ gq, q = .pointer (some ⟨gq, 0, none⟩) := by obtain ⟨gq, _, _, e, _⟩ := h; exact ⟨gq, e⟩
  obtain ⟨gq, rfl⟩ := hq
  have HVB := Lib.hid (show 0 < m → ∀ j, (Value.slice A (16 * m) c).ownBlock = some j → j < N from fun hm j hj => by rw [← hN]; exact hs.lt (by rw [ht]; omega) j hj)
  have HSB := Lib.hid (show ∀ j, vs.ownBlock = some j → j < N from fun j hj => by rw [← hN]; exact hv.lt (by rw [hl]; decide) j hj)
  have HSZ := Lib.hid (fun (w' : World) (hw' : Below N w w') => Size_any (.pointer (some ⟨gq, 0, none⟩)) 1 B key w' (h.below hw' (by omega)))
  have HE := Lib.hid (fun (w1 : World) (hL : Below N w w1) (hz : w1.heap.size = N + 1 + 1 + 1) (i2 : One w1 N 25 (.pointer (some ⟨gq, 0, none⟩))) (i1 : One w1 (N + 1) 4 (.bool true)) (i3 : One w1 (N + 1 + 1) 22 vs) =>
    eachC16 (.pointer (some ⟨gq, 0, none⟩)) (.slice A (16 * m) c) B (N + 1) N (N + 1 + 1) (N + 1 + 1) m key text w1 (fun k w' => One w' (N + 1) 4 (.bool true) ∧ One w' N 25 (.pointer (some ⟨gq, 0, none⟩)) ∧ Cip w' B (.pointer (some ⟨gq, 0, none⟩)) 1 key ∧ ∃ vl, One w' (N + 1 + 1) 22 vl ∧ (k ≤ m → SlB w' vl (lastB start text 16 k)) ∧ ∀ j, vl.ownBlock = some j → j ≠ N + 1 + 1 ∧ j < w1.heap.size) (fun k => pxor (pdo 1 key (blkAt text 16 k) true) (lastB start text 16 k))
      (HC.out.below hL (by rw [← HN.out]; exact hB)) (HS.out.below (by rw [HN.out]; exact hL)) HT.out hmx (by omega) (fun hm j hj => by have := HVB.out hm j hj; omega) ⟨i1, i2, HC.out.below hL (by rw [← HN.out]; exact hB), vs, i3, fun _ => HV.out.below (by rw [HN.out]; exact hL), fun j hj => by have := HSB.out j hj; omega⟩ (fun _ => by rw [pxor_len]; exact pdo_len 1 _ _ _ (by decide))
      (fun _ a b v l ⟨a1, a2, a3, vl, a4, a5, a6⟩ hO hG => ⟨a1.rows hG (fun j hj => by have := (hO.lt j hj).1; omega), a2.rows hG (fun j hj => by have := (hO.lt j hj).1; omega), a3.rows hG (fun j hj => by have := (hO.lt j hj).1; omega), vl, a4.rows hG (fun j hj => by have := (hO.lt j hj).1; omega), fun hk => (a5 hk).old hG (by
          cases ho : vl.ownBlock with
          | none => exact .inl rfl
          | some j => exact .inr (fun e => by have h1 := (hO.lt j e.symm).1; have h2 := (a6 j ho).2; omega)), a6⟩)
      (fun k w2 vb hk ⟨a1, a2, a3, vl, a4, a5, a6⟩ hG hsb hvb => (cbk_any _ vb vl B 1 (N + 1) N (N + 1 + 1) key _ (lastB start text 16 k) w2 (by decide) a3 (by have := hG.size; omega) HF.out hsb (blkAt_len text 16 m k HT.out hk) (fun j hj => (hvb j hj).1) (a5 (Nat.le_of_lt hk)) (by cases k with | zero => exact HSL.out | succ k => exact blkAt_len text 16 m k HT.out (by omega)) (fun j hj => (a6 j hj).1) a1 a2 a4).mono fun e w3 ⟨v, he, hS3, hO3, hG3⟩ =>
        ⟨v, he, hS3, ⟨a1.old hG3 (by simp), a2.old hG3 (by simp; omega), a3.rows hG3 (fun j hj => by cases hj; omega), vb, hO3, fun _ => hsb.old hG3 (by
          cases ho : vb.ownBlock with
          | none => exact .inl rfl
          | some j => exact .inr (fun e => (hvb j ho).1 (Option.some.inj e))), hvb⟩, hG3⟩))
  have hvs : ∃ A c, vs = .slice A 16 c ∧ 16 ≤ c ∧ c ≤ maxLen := by obtain ⟨A, c, e, _, h1, h2, _⟩ := hv; exact ⟨A, c, by rw [e, hl], by omega, h2⟩
  obtain ⟨As, cs, rfl, _, _⟩ := hvs
  clear h hs hf hv ht hl
  go_enter Tryz.func13, Tryz.ntmps13
  go_wp2_with (first
    | ((with_reducible show wpList _ _ _ _ _ w); refine box_one (w := w) rfl 25 _ rfl (.pointer (some ⟨gq, 0, none⟩)) rfl rfl ?_; intro w0 h20 hG0 hz0; rw [hN] at h20 hz0 ⊢)
    | ((with_reducible show wpList _ _ _ _ _ w0); refine box_one (w := w0) rfl 4 _ rfl (.bool true) rfl rfl ?_; intro w1 h11 hG1 hz1; rw [hz0] at h11 hz1 ⊢; have hL1 : Below N w w1 := (below_none (below_none (Below.refl N w) (by omega) hG0) (by omega) hG1); have h21 := h20.old hG1 (by simp); have c21 := h21.cell)
    | (go_at_call 46; refine (HSZ.out w1 hL1).mono ?_; rintro e w1 ⟨rfl, rfl⟩; rw [show psize 1 = 16 from rfl])
    | ((with_reducible show wpList _ _ _ _ _ w1); refine alloc_one (w := w1) rfl 22 rfl (.slice none 0 0) (fun _ => by kernel_rfl) rfl ?_; intro w2 h32 hG2 hz2; rw [hz1] at h32 hz2 ⊢)
    | ((with_reducible show wpList _ _ _ _ _ w2); refine store_one (w := w2) rfl 22 _ _ rfl (N + 1 + 1) 22 _ (.slice As 16 cs) (by rfl) rfl rfl h32 (by kernel_rfl) ?_; intro w3 h33 hG3 hz3; have hL3 : Below N w w3 := (below_new (below_none hL1 (by omega) hG2) (by omega) hG3 (by omega)); have h23 := (h21.old hG2 (by simp)).old hG3 (by simp; omega); have h13 := (h11.old hG2 (by simp)).old hG3 (by simp); have c23 := h23.cell)
    | (go_at_call 43; refine (HE.out w3 hL3 (by omega) h23 h13 h33).mono ?_; rintro e w4 ⟨v4, rfl, hO4, hG4⟩))
  go_ret2
  refine ⟨_, rfl, hO4.lower (by omega), ?_⟩
  rw [hN]
  exact below_new hL3 (by omega) hG4 (by omega)
set_option maxHeartbeats 1600000 in
set_option maxRecDepth 100000 in
theorem Unchained8 (q vt vs : Value) (B m : Nat) (key start text : List UInt8) (w : World) (h : Cip w B q 2 key) (hB : B ≤ w.heap.size) (hf : pfits 2 key.length = true) (hs : SlB w vt text) (ht : text.length = 8 * m) (hmx : m ≤ 100000)
    (hv : SlB w vs start) (hl : start.length = 8) :
    Calls Tryz.prog 13 #[q, vs, vt, .bool true] w fun e w' => ∃ v, e = .returned (.tuple #[v, .nilIface]) ∧ Own w' w.heap.size v (unchTo 2 key start text m) ∧ Below w.heap.size w w' := by
  obtain ⟨N, hN⟩ : ∃ N, w.heap.size = N := ⟨_, rfl⟩
  have HN := Lib.hid hN
  obtain ⟨A, c, evt, _, b1, b2, _⟩ := id hs
  rw [ht] at evt b1
  subst evt
  have HC := Lib.hid h
  have HS := Lib.hid hs
  have HV := Lib.hid hv
  have HF := Lib.hid hf
  have HT := Lib.hid ht
  have HSL := Lib.hid hl
  have hq : ∃ gq, q = .pointer (some ⟨gq, 0, none⟩) := by obtain ⟨gq, _, _, e, _⟩ := h; exact ⟨gq, e⟩
  obtain ⟨gq, rfl⟩ := hq
  have HVB := Lib.hid (show 0 < m → ∀ j, (Value.slice A (8 * m) c).ownBlock = some j → j < N from fun hm j hj => by rw [← hN]; exact hs.lt (by rw [ht]; omega) j hj)
  have HSB := Lib.hid (show ∀ j, vs.ownBlock = some j → j < N from fun j hj => by rw [← hN]; exact hv.lt (by rw [hl]; decide) j hj)
  have HSZ := Lib.hid (fun (w' : World) (hw' : Below N w w') => Size_any (.pointer (some ⟨gq, 0, none⟩)) 2 B key w' (h.below hw' (by omega)))
  have HE := Lib.hid (fun (w1 : World) (hL : Below N w w1) (hz : w1.heap.size = N + 1 + 1 + 1) (i2 : One w1 N 25 (.pointer (some ⟨gq, 0, none⟩))) (i1 : One w1 (N + 1) 4 (.bool true)) (i3 : One w1 (N + 1 + 1) 22 vs) =>
    eachC8 (.pointer (some ⟨gq, 0, none⟩)) (.slice A (8 * m) c) B (N + 1) N (N + 1 + 1) (N + 1 + 1) m key text w1 (fun k w' => One w' (N + 1) 4 (.bool true) ∧ One w' N 25 (.pointer (some ⟨gq, 0, none⟩)) ∧ Cip w' B (.pointer (some ⟨gq, 0, none⟩)) 2 key ∧ ∃ vl, One w' (N + 1 + 1) 22 vl ∧ (k ≤ m → SlB w' vl (lastB start text 8 k)) ∧ ∀ j, vl.ownBlock = some j → j ≠ N + 1 + 1 ∧ j < w1.heap.size) (fun k => pxor (pdo 2 key (blkAt text 8 k) true) (lastB start text 8 k))
      (HC.out.below hL (by rw [← HN.out]; exact hB)) (HS.out.below (by rw [HN.out]; exact hL)) HT.out hmx (by omega) (fun hm j hj => by have := HVB.out hm j hj; omega) ⟨i1, i2, HC.out.below hL (by rw [← HN.out]; exact hB), vs, i3, fun _ => HV.out.below (by rw [HN.out]; exact hL), fun j hj => by have := HSB.out j hj; omega⟩ (fun _ => by rw [pxor_len]; exact pdo_len 2 _ _ _ (by decide))
      (fun _ a b v l ⟨a1, a2, a3, vl, a4, a5, a6⟩ hO hG => ⟨a1.rows hG (fun j hj => by have := (hO.lt j hj).1; omega), a2.rows hG (fun j hj => by have := (hO.lt j hj).1; omega), a3.rows hG (fun j hj => by have := (hO.lt j hj).1; omega), vl, a4.rows hG (fun j hj => by have := (hO.lt j hj).1; omega), fun hk => (a5 hk).old hG (by
          cases ho : vl.ownBlock with
          | none => exact .inl rfl
          | some j => exact .inr (fun e => by have h1 := (hO.lt j e.symm).1; have h2 := (a6 j ho).2; omega)), a6⟩)
      (fun k w2 vb hk ⟨a1, a2, a3, vl, a4, a5, a6⟩ hG hsb hvb => (cbk_any _ vb vl B 2 (N + 1) N (N + 1 + 1) key _ (lastB start text 8 k) w2 (by decide) a3 (by have := hG.size; omega) HF.out hsb (blkAt_len text 8 m k HT.out hk) (fun j hj => (hvb j hj).1) (a5 (Nat.le_of_lt hk)) (by cases k with | zero => exact HSL.out | succ k => exact blkAt_len text 8 m k HT.out (by omega)) (fun j hj => (a6 j hj).1) a1 a2 a4).mono fun e w3 ⟨v, he, hS3, hO3, hG3⟩ =>
        ⟨v, he, hS3, ⟨a1.old hG3 (by simp), a2.old hG3 (by simp; omega), a3.rows hG3 (fun j hj => by cases hj; omega), vb, hO3, fun _ => hsb.old hG3 (by
          cases ho : vb.ownBlock with
          | none => exact .inl rfl
          | some j => exact .inr (fun e => (hvb j ho).1 (Option.some.inj e))), hvb⟩, hG3⟩))
  have hvs : ∃ A c, vs = .slice A 8 c ∧ 8 ≤ c ∧ c ≤ maxLen := by obtain ⟨A, c, e, _, h1, h2, _⟩ := hv; exact ⟨A, c, by rw [e, hl], by omega, h2⟩
  obtain ⟨As, cs, rfl, _, _⟩ := hvs
  clear h hs hf hv ht hl
  go_enter Tryz.func13, Tryz.ntmps13
  go_wp2_with (first
    | ((with_reducible show wpList _ _ _ _ _ w); refine box_one (w := w) rfl 25 _ rfl (.pointer (some ⟨gq, 0, none⟩)) rfl rfl ?_; intro w0 h20 hG0 hz0; rw [hN] at h20 hz0 ⊢)
    | ((with_reducible show wpList _ _ _ _ _ w0); refine box_one (w := w0) rfl 4 _ rfl (.bool true) rfl rfl ?_; intro w1 h11 hG1 hz1; rw [hz0] at h11 hz1 ⊢; have hL1 : Below N w w1 := (below_none (below_none (Below.refl N w) (by omega) hG0) (by omega) hG1); have h21 := h20.old hG1 (by simp); have c21 := h21.cell)
    | (go_at_call 46; refine (HSZ.out w1 hL1).mono ?_; rintro e w1 ⟨rfl, rfl⟩; rw [show psize 2 = 8 from rfl])
    | ((with_reducible show wpList _ _ _ _ _ w1); refine alloc_one (w := w1) rfl 22 rfl (.slice none 0 0) (fun _ => by kernel_rfl) rfl ?_; intro w2 h32 hG2 hz2; rw [hz1] at h32 hz2 ⊢)
    | ((with_reducible show wpList _ _ _ _ _ w2); refine store_one (w := w2) rfl 22 _ _ rfl (N + 1 + 1) 22 _ (.slice As 8 cs) (by rfl) rfl rfl h32 (by kernel_rfl) ?_; intro w3 h33 hG3 hz3; have hL3 : Below N w w3 := (below_new (below_none hL1 (by omega) hG2) (by omega) hG3 (by omega)); have h23 := (h21.old hG2 (by simp)).old hG3 (by simp; omega); have h13 := (h11.old hG2 (by simp)).old hG3 (by simp); have c23 := h23.cell)
    | (go_at_call 43; refine (HE.out w3 hL3 (by omega) h23 h13 h33).mono ?_; rintro e w4 ⟨v4, rfl, hO4, hG4⟩))
  go_ret2
  refine ⟨_, rfl, hO4.lower (by omega), ?_⟩
  rw [hN]
  exact below_new hL3 (by omega) hG4 (by omega)
end Go.Proofs.YtbbfjlnkhenbiaaGreatDoor
set_option linter.unusedVariables false
set_option linter.unusedSimpArgs false
namespace Lk
open Go Go.RowKit
def ezk : List UInt8 := [0, 0, 0, 0, 0, 0, 0, 0, 0, 0, 0, 0, 0, 0, 0, 0]
theorem ezw0 : wst ezk 0 = ([0, 0, 0, 0, 0, 0, 0, 0, 0, 0, 0, 0, 0, 0, 0, 0], 1) := by decide +kernel
theorem ezw1 : wst ezk 1 = ([0, 0, 0, 0, 0, 0, 0, 0, 0, 0, 0, 0, 0, 0, 0, 0, 98, 99, 99, 99], 2) := (wst_T (j := 0) (nk := 4) ezw0 rfl).trans (by decide +kernel)
theorem ezw2 : wst ezk 2 = ([0, 0, 0, 0, 0, 0, 0, 0, 0, 0, 0, 0, 0, 0, 0, 0, 98, 99, 99, 99, 98, 99, 99, 99], 2) := (wst_T (j := 1) (nk := 4) ezw1 rfl).trans (by decide +kernel)
theorem ezw3 : wst ezk 3 = ([0, 0, 0, 0, 0, 0, 0, 0, 0, 0, 0, 0, 0, 0, 0, 0, 98, 99, 99, 99, 98, 99, 99, 99, 98, 99, 99, 99], 2) := (wst_T (j := 2) (nk := 4) ezw2 rfl).trans (by decide +kernel)
theorem ezw4 : wst ezk 4 = ([0, 0, 0, 0, 0, 0, 0, 0, 0, 0, 0, 0, 0, 0, 0, 0, 98, 99, 99, 99, 98, 99, 99, 99, 98, 99, 99, 99, 98, 99, 99, 99], 2) := (wst_T (j := 3) (nk := 4) ezw3 rfl).trans (by decide +kernel)
theorem ezw5 : wst ezk 5 = ([0, 0, 0, 0, 0, 0, 0, 0, 0, 0, 0, 0, 0, 0, 0, 0, 98, 99, 99, 99, 98, 99, 99, 99, 98, 99, 99, 99, 98, 99, 99, 99, 155, 152, 152, 201], 4) := (wst_T (j := 4) (nk := 4) ezw4 rfl).trans (by decide +kernel)
theorem ezw6 : wst ezk 6 = ([0, 0, 0, 0, 0, 0, 0, 0, 0, 0, 0, 0, 0, 0, 0, 0, 98, 99, 99, 99, 98, 99, 99, 99, 98, 99, 99, 99, 98, 99, 99, 99, 155, 152, 152, 201, 249, 251, 251, 170], 4) := (wst_T (j := 5) (nk := 4) ezw5 rfl).trans (by decide +kernel)
theorem ezw7 : wst ezk 7 = ([0, 0, 0, 0, 0, 0, 0, 0, 0, 0, 0, 0, 0, 0, 0, 0, 98, 99, 99, 99, 98, 99, 99, 99, 98, 99, 99, 99, 98, 99, 99, 99, 155, 152, 152, 201, 249, 251, 251, 170, 155, 152, 152, 201], 4) := (wst_T (j := 6) (nk := 4) ezw6 rfl).trans (by decide +kernel)
theorem ezw8 : wst ezk 8 = ([0, 0, 0, 0, 0, 0, 0, 0, 0, 0, 0, 0, 0, 0, 0, 0, 98, 99, 99, 99, 98, 99, 99, 99, 98, 99, 99, 99, 98, 99, 99, 99, 155, 152, 152, 201, 249, 251, 251, 170, 155, 152, 152, 201, 249, 251, 251, 170], 4) := (wst_T (j := 7) (nk := 4) ezw7 rfl).trans (by decide +kernel)
theorem ezw9 : wst ezk 9 = ([0, 0, 0, 0, 0, 0, 0, 0, 0, 0, 0, 0, 0, 0, 0, 0, 98, 99, 99, 99, 98, 99, 99, 99, 98, 99, 99, 99, 98, 99, 99, 99, 155, 152, 152, 201, 249, 251, 251, 170, 155, 152, 152, 201, 249, 251, 251, 170, 144, 151, 52, 80], 8) := (wst_T (j := 8) (nk := 4) ezw8 rfl).trans (by decide +kernel)
theorem ezw10 : wst ezk 10 = ([0, 0, 0, 0, 0, 0, 0, 0, 0, 0, 0, 0, 0, 0, 0, 0, 98, 99, 99, 99, 98, 99, 99, 99, 98, 99, 99, 99, 98, 99, 99, 99, 155, 152, 152, 201, 249, 251, 251, 170, 155, 152, 152, 201, 249, 251, 251, 170, 144, 151, 52, 80, 105, 108, 207, 250], 8) := (wst_T (j := 9) (nk := 4) ezw9 rfl).trans (by decide +kernel)
theorem ezw11 : wst ezk 11 = ([0, 0, 0, 0, 0, 0, 0, 0, 0, 0, 0, 0, 0, 0, 0, 0, 98, 99, 99, 99, 98, 99, 99, 99, 98, 99, 99, 99, 98, 99, 99, 99, 155, 152, 152, 201, 249, 251, 251, 170, 155, 152, 152, 201, 249, 251, 251, 170, 144, 151, 52, 80, 105, 108, 207, 250, 242, 244, 87, 51], 8) := (wst_T (j := 10) (nk := 4) ezw10 rfl).trans (by decide +kernel)
theorem ezw12 : wst ezk 12 = ([0, 0, 0, 0, 0, 0, 0, 0, 0, 0, 0, 0, 0, 0, 0, 0, 98, 99, 99, 99, 98, 99, 99, 99, 98, 99, 99, 99, 98, 99, 99, 99, 155, 152, 152, 201, 249, 251, 251, 170, 155, 152, 152, 201, 249, 251, 251, 170, 144, 151, 52, 80, 105, 108, 207, 250, 242, 244, 87, 51, 11, 15, 172, 153], 8) := (wst_T (j := 11) (nk := 4) ezw11 rfl).trans (by decide +kernel)
theorem ezw13 : wst ezk 13 = ([0, 0, 0, 0, 0, 0, 0, 0, 0, 0, 0, 0, 0, 0, 0, 0, 98, 99, 99, 99, 98, 99, 99, 99, 98, 99, 99, 99, 98, 99, 99, 99, 155, 152, 152, 201, 249, 251, 251, 170, 155, 152, 152, 201, 249, 251, 251, 170, 144, 151, 52, 80, 105, 108, 207, 250, 242, 244, 87, 51, 11, 15, 172, 153, 238, 6, 218, 123], 16) := (wst_T (j := 12) (nk := 4) ezw12 rfl).trans (by decide +kernel)
theorem ezw14 : wst ezk 14 = ([0, 0, 0, 0, 0, 0, 0, 0, 0, 0, 0, 0, 0, 0, 0, 0, 98, 99, 99, 99, 98, 99, 99, 99, 98, 99, 99, 99, 98, 99, 99, 99, 155, 152, 152, 201, 249, 251, 251, 170, 155, 152, 152, 201, 249, 251, 251, 170, 144, 151, 52, 80, 105, 108, 207, 250, 242, 244, 87, 51, 11, 15, 172, 153, 238, 6, 218, 123, 135, 106, 21, 129], 16) := (wst_T (j := 13) (nk := 4) ezw13 rfl).trans (by decide +kernel)
theorem ezw15 : wst ezk 15 = ([0, 0, 0, 0, 0, 0, 0, 0, 0, 0, 0, 0, 0, 0, 0, 0, 98, 99, 99, 99, 98, 99, 99, 99, 98, 99, 99, 99, 98, 99, 99, 99, 155, 152, 152, 201, 249, 251, 251, 170, 155, 152, 152, 201, 249, 251, 251, 170, 144, 151, 52, 80, 105, 108, 207, 250, 242, 244, 87, 51, 11, 15, 172, 153, 238, 6, 218, 123, 135, 106, 21, 129, 117, 158, 66, 178], 16) := (wst_T (j := 14) (nk := 4) ezw14 rfl).trans (by decide +kernel)
theorem ezw16 : wst ezk 16 = ([0, 0, 0, 0, 0, 0, 0, 0, 0, 0, 0, 0, 0, 0, 0, 0, 98, 99, 99, 99, 98, 99, 99, 99, 98, 99, 99, 99, 98, 99, 99, 99, 155, 152, 152, 201, 249, 251, 251, 170, 155, 152, 152, 201, 249, 251, 251, 170, 144, 151, 52, 80, 105, 108, 207, 250, 242, 244, 87, 51, 11, 15, 172, 153, 238, 6, 218, 123, 135, 106, 21, 129, 117, 158, 66, 178, 126, 145, 238, 43], 16) := (wst_T (j := 15) (nk := 4) ezw15 rfl).trans (by decide +kernel)
theorem ezw17 : wst ezk 17 = ([0, 0, 0, 0, 0, 0, 0, 0, 0, 0, 0, 0, 0, 0, 0, 0, 98, 99, 99, 99, 98, 99, 99, 99, 98, 99, 99, 99, 98, 99, 99, 99, 155, 152, 152, 201, 249, 251, 251, 170, 155, 152, 152, 201, 249, 251, 251, 170, 144, 151, 52, 80, 105, 108, 207, 250, 242, 244, 87, 51, 11, 15, 172, 153, 238, 6, 218, 123, 135, 106, 21, 129, 117, 158, 66, 178, 126, 145, 238, 43, 127, 46, 43, 136], 32) := (wst_T (j := 16) (nk := 4) ezw16 rfl).trans (by decide +kernel)
theorem ezw18 : wst ezk 18 = ([0, 0, 0, 0, 0, 0, 0, 0, 0, 0, 0, 0, 0, 0, 0, 0, 98, 99, 99, 99, 98, 99, 99, 99, 98, 99, 99, 99, 98, 99, 99, 99, 155, 152, 152, 201, 249, 251, 251, 170, 155, 152, 152, 201, 249, 251, 251, 170, 144, 151, 52, 80, 105, 108, 207, 250, 242, 244, 87, 51, 11, 15, 172, 153, 238, 6, 218, 123, 135, 106, 21, 129, 117, 158, 66, 178, 126, 145, 238, 43, 127, 46, 43, 136, 248, 68, 62, 9], 32) := (wst_T (j := 17) (nk := 4) ezw17 rfl).trans (by decide +kernel)
theorem ezw19 : wst ezk 19 = ([0, 0, 0, 0, 0, 0, 0, 0, 0, 0, 0, 0, 0, 0, 0, 0, 98, 99, 99, 99, 98, 99, 99, 99, 98, 99, 99, 99, 98, 99, 99, 99, 155, 152, 152, 201, 249, 251, 251, 170, 155, 152, 152, 201, 249, 251, 251, 170, 144, 151, 52, 80, 105, 108, 207, 250, 242, 244, 87, 51, 11, 15, 172, 153, 238, 6, 218, 123, 135, 106, 21, 129, 117, 158, 66, 178, 126, 145, 238, 43, 127, 46, 43, 136, 248, 68, 62, 9, 141, 218, 124, 187], 32) := (wst_T (j := 18) (nk := 4) ezw18 rfl).trans (by decide +kernel)
theorem ezw20 : wst ezk 20 = ([0, 0, 0, 0, 0, 0, 0, 0, 0, 0, 0, 0, 0, 0, 0, 0, 98, 99, 99, 99, 98, 99, 99, 99, 98, 99, 99, 99, 98, 99, 99, 99, 155, 152, 152, 201, 249, 251, 251, 170, 155, 152, 152, 201, 249, 251, 251, 170, 144, 151, 52, 80, 105, 108, 207, 250, 242, 244, 87, 51, 11, 15, 172, 153, 238, 6, 218, 123, 135, 106, 21, 129, 117, 158, 66, 178, 126, 145, 238, 43, 127, 46, 43, 136, 248, 68, 62, 9, 141, 218, 124, 187, 243, 75, 146, 144], 32) := (wst_T (j := 19) (nk := 4) ezw19 rfl).trans (by decide +kernel)
theorem ezw21 : wst ezk 21 = ([0, 0, 0, 0, 0, 0, 0, 0, 0, 0, 0, 0, 0, 0, 0, 0, 98, 99, 99, 99, 98, 99, 99, 99, 98, 99, 99, 99, 98, 99, 99, 99, 155, 152, 152, 201, 249, 251, 251, 170, 155, 152, 152, 201, 249, 251, 251, 170, 144, 151, 52, 80, 105, 108, 207, 250, 242, 244, 87, 51, 11, 15, 172, 153, 238, 6, 218, 123, 135, 106, 21, 129, 117, 158, 66, 178, 126, 145, 238, 43, 127, 46, 43, 136, 248, 68, 62, 9, 141, 218, 124, 187, 243, 75, 146, 144, 236, 97, 75, 133], 64) := (wst_T (j := 20) (nk := 4) ezw20 rfl).trans (by decide +kernel)
theorem ezw22 : wst ezk 22 = ([0, 0, 0, 0, 0, 0, 0, 0, 0, 0, 0, 0, 0, 0, 0, 0, 98, 99, 99, 99, 98, 99, 99, 99, 98, 99, 99, 99, 98, 99, 99, 99, 155, 152, 152, 201, 249, 251, 251, 170, 155, 152, 152, 201, 249, 251, 251, 170, 144, 151, 52, 80, 105, 108, 207, 250, 242, 244, 87, 51, 11, 15, 172, 153, 238, 6, 218, 123, 135, 106, 21, 129, 117, 158, 66, 178, 126, 145, 238, 43, 127, 46, 43, 136, 248, 68, 62, 9, 141, 218, 124, 187, 243, 75, 146, 144, 236, 97, 75, 133, 20, 37, 117, 140], 64) := (wst_T (j := 21) (nk := 4) ezw21 rfl).trans (by decide +kernel)
theorem ezw23 : wst ezk 23 = ([0, 0, 0, 0, 0, 0, 0, 0, 0, 0, 0, 0, 0, 0, 0, 0, 98, 99, 99, 99, 98, 99, 99, 99, 98, 99, 99, 99, 98, 99, 99, 99, 155, 152, 152, 201, 249, 251, 251, 170, 155, 152, 152, 201, 249, 251, 251, 170, 144, 151, 52, 80, 105, 108, 207, 250, 242, 244, 87, 51, 11, 15, 172, 153, 238, 6, 218, 123, 135, 106, 21, 129, 117, 158, 66, 178, 126, 145, 238, 43, 127, 46, 43, 136, 248, 68, 62, 9, 141, 218, 124, 187, 243, 75, 146, 144, 236, 97, 75, 133, 20, 37, 117, 140, 153, 255, 9, 55], 64) := (wst_T (j := 22) (nk := 4) ezw22 rfl).trans (by decide +kernel)
theorem ezw24 : wst ezk 24 = ([0, 0, 0, 0, 0, 0, 0, 0, 0, 0, 0, 0, 0, 0, 0, 0, 98, 99, 99, 99, 98, 99, 99, 99, 98, 99, 99, 99, 98, 99, 99, 99, 155, 152, 152, 201, 249, 251, 251, 170, 155, 152, 152, 201, 249, 251, 251, 170, 144, 151, 52, 80, 105, 108, 207, 250, 242, 244, 87, 51, 11, 15, 172, 153, 238, 6, 218, 123, 135, 106, 21, 129, 117, 158, 66, 178, 126, 145, 238, 43, 127, 46, 43, 136, 248, 68, 62, 9, 141, 218, 124, 187, 243, 75, 146, 144, 236, 97, 75, 133, 20, 37, 117, 140, 153, 255, 9, 55, 106, 180, 155, 167], 64) := (wst_T (j := 23) (nk := 4) ezw23 rfl).trans (by decide +kernel)
theorem ezw25 : wst ezk 25 = ([0, 0, 0, 0, 0, 0, 0, 0, 0, 0, 0, 0, 0, 0, 0, 0, 98, 99, 99, 99, 98, 99, 99, 99, 98, 99, 99, 99, 98, 99, 99, 99, 155, 152, 152, 201, 249, 251, 251, 170, 155, 152, 152, 201, 249, 251, 251, 170, 144, 151, 52, 80, 105, 108, 207, 250, 242, 244, 87, 51, 11, 15, 172, 153, 238, 6, 218, 123, 135, 106, 21, 129, 117, 158, 66, 178, 126, 145, 238, 43, 127, 46, 43, 136, 248, 68, 62, 9, 141, 218, 124, 187, 243, 75, 146, 144, 236, 97, 75, 133, 20, 37, 117, 140, 153, 255, 9, 55, 106, 180, 155, 167, 33, 117, 23, 135], 128) := (wst_T (j := 24) (nk := 4) ezw24 rfl).trans (by decide +kernel)
theorem ezw26 : wst ezk 26 = ([0, 0, 0, 0, 0, 0, 0, 0, 0, 0, 0, 0, 0, 0, 0, 0, 98, 99, 99, 99, 98, 99, 99, 99, 98, 99, 99, 99, 98, 99, 99, 99, 155, 152, 152, 201, 249, 251, 251, 170, 155, 152, 152, 201, 249, 251, 251, 170, 144, 151, 52, 80, 105, 108, 207, 250, 242, 244, 87, 51, 11, 15, 172, 153, 238, 6, 218, 123, 135, 106, 21, 129, 117, 158, 66, 178, 126, 145, 238, 43, 127, 46, 43, 136, 248, 68, 62, 9, 141, 218, 124, 187, 243, 75, 146, 144, 236, 97, 75, 133, 20, 37, 117, 140, 153, 255, 9, 55, 106, 180, 155, 167, 33, 117, 23, 135, 53, 80, 98, 11], 128) := (wst_T (j := 25) (nk := 4) ezw25 rfl).trans (by decide +kernel)
theorem ezw27 : wst ezk 27 = ([0, 0, 0, 0, 0, 0, 0, 0, 0, 0, 0, 0, 0, 0, 0, 0, 98, 99, 99, 99, 98, 99, 99, 99, 98, 99, 99, 99, 98, 99, 99, 99, 155, 152, 152, 201, 249, 251, 251, 170, 155, 152, 152, 201, 249, 251, 251, 170, 144, 151, 52, 80, 105, 108, 207, 250, 242, 244, 87, 51, 11, 15, 172, 153, 238, 6, 218, 123, 135, 106, 21, 129, 117, 158, 66, 178, 126, 145, 238, 43, 127, 46, 43, 136, 248, 68, 62, 9, 141, 218, 124, 187, 243, 75, 146, 144, 236, 97, 75, 133, 20, 37, 117, 140, 153, 255, 9, 55, 106, 180, 155, 167, 33, 117, 23, 135, 53, 80, 98, 11, 172, 175, 107, 60], 128) := (wst_T (j := 26) (nk := 4) ezw26 rfl).trans (by decide +kernel)
theorem ezw28 : wst ezk 28 = ([0, 0, 0, 0, 0, 0, 0, 0, 0, 0, 0, 0, 0, 0, 0, 0, 98, 99, 99, 99, 98, 99, 99, 99, 98, 99, 99, 99, 98, 99, 99, 99, 155, 152, 152, 201, 249, 251, 251, 170, 155, 152, 152, 201, 249, 251, 251, 170, 144, 151, 52, 80, 105, 108, 207, 250, 242, 244, 87, 51, 11, 15, 172, 153, 238, 6, 218, 123, 135, 106, 21, 129, 117, 158, 66, 178, 126, 145, 238, 43, 127, 46, 43, 136, 248, 68, 62, 9, 141, 218, 124, 187, 243, 75, 146, 144, 236, 97, 75, 133, 20, 37, 117, 140, 153, 255, 9, 55, 106, 180, 155, 167, 33, 117, 23, 135, 53, 80, 98, 11, 172, 175, 107, 60, 198, 27, 240, 155], 128) := (wst_T (j := 27) (nk := 4) ezw27 rfl).trans (by decide +kernel)
theorem ezw29 : wst ezk 29 = ([0, 0, 0, 0, 0, 0, 0, 0, 0, 0, 0, 0, 0, 0, 0, 0, 98, 99, 99, 99, 98, 99, 99, 99, 98, 99, 99, 99, 98, 99, 99, 99, 155, 152, 152, 201, 249, 251, 251, 170, 155, 152, 152, 201, 249, 251, 251, 170, 144, 151, 52, 80, 105, 108, 207, 250, 242, 244, 87, 51, 11, 15, 172, 153, 238, 6, 218, 123, 135, 106, 21, 129, 117, 158, 66, 178, 126, 145, 238, 43, 127, 46, 43, 136, 248, 68, 62, 9, 141, 218, 124, 187, 243, 75, 146, 144, 236, 97, 75, 133, 20, 37, 117, 140, 153, 255, 9, 55, 106, 180, 155, 167, 33, 117, 23, 135, 53, 80, 98, 11, 172, 175, 107, 60, 198, 27, 240, 155, 14, 249, 3, 51], 27) := (wst_T (j := 28) (nk := 4) ezw28 rfl).trans (by decide +kernel)
theorem ezw30 : wst ezk 30 = ([0, 0, 0, 0, 0, 0, 0, 0, 0, 0, 0, 0, 0, 0, 0, 0, 98, 99, 99, 99, 98, 99, 99, 99, 98, 99, 99, 99, 98, 99, 99, 99, 155, 152, 152, 201, 249, 251, 251, 170, 155, 152, 152, 201, 249, 251, 251, 170, 144, 151, 52, 80, 105, 108, 207, 250, 242, 244, 87, 51, 11, 15, 172, 153, 238, 6, 218, 123, 135, 106, 21, 129, 117, 158, 66, 178, 126, 145, 238, 43, 127, 46, 43, 136, 248, 68, 62, 9, 141, 218, 124, 187, 243, 75, 146, 144, 236, 97, 75, 133, 20, 37, 117, 140, 153, 255, 9, 55, 106, 180, 155, 167, 33, 117, 23, 135, 53, 80, 98, 11, 172, 175, 107, 60, 198, 27, 240, 155, 14, 249, 3, 51, 59, 169, 97, 56], 27) := (wst_T (j := 29) (nk := 4) ezw29 rfl).trans (by decide +kernel)
theorem ezw31 : wst ezk 31 = ([0, 0, 0, 0, 0, 0, 0, 0, 0, 0, 0, 0, 0, 0, 0, 0, 98, 99, 99, 99, 98, 99, 99, 99, 98, 99, 99, 99, 98, 99, 99, 99, 155, 152, 152, 201, 249, 251, 251, 170, 155, 152, 152, 201, 249, 251, 251, 170, 144, 151, 52, 80, 105, 108, 207, 250, 242, 244, 87, 51, 11, 15, 172, 153, 238, 6, 218, 123, 135, 106, 21, 129, 117, 158, 66, 178, 126, 145, 238, 43, 127, 46, 43, 136, 248, 68, 62, 9, 141, 218, 124, 187, 243, 75, 146, 144, 236, 97, 75, 133, 20, 37, 117, 140, 153, 255, 9, 55, 106, 180, 155, 167, 33, 117, 23, 135, 53, 80, 98, 11, 172, 175, 107, 60, 198, 27, 240, 155, 14, 249, 3, 51, 59, 169, 97, 56, 151, 6, 10, 4], 27) := (wst_T (j := 30) (nk := 4) ezw30 rfl).trans (by decide +kernel)
theorem ezw32 : wst ezk 32 = ([0, 0, 0, 0, 0, 0, 0, 0, 0, 0, 0, 0, 0, 0, 0, 0, 98, 99, 99, 99, 98, 99, 99, 99, 98, 99, 99, 99, 98, 99, 99, 99, 155, 152, 152, 201, 249, 251, 251, 170, 155, 152, 152, 201, 249, 251, 251, 170, 144, 151, 52, 80, 105, 108, 207, 250, 242, 244, 87, 51, 11, 15, 172, 153, 238, 6, 218, 123, 135, 106, 21, 129, 117, 158, 66, 178, 126, 145, 238, 43, 127, 46, 43, 136, 248, 68, 62, 9, 141, 218, 124, 187, 243, 75, 146, 144, 236, 97, 75, 133, 20, 37, 117, 140, 153, 255, 9, 55, 106, 180, 155, 167, 33, 117, 23, 135, 53, 80, 98, 11, 172, 175, 107, 60, 198, 27, 240, 155, 14, 249, 3, 51, 59, 169, 97, 56, 151, 6, 10, 4, 81, 29, 250, 159], 27) := (wst_T (j := 31) (nk := 4) ezw31 rfl).trans (by decide +kernel)
theorem ezw33 : wst ezk 33 = ([0, 0, 0, 0, 0, 0, 0, 0, 0, 0, 0, 0, 0, 0, 0, 0, 98, 99, 99, 99, 98, 99, 99, 99, 98, 99, 99, 99, 98, 99, 99, 99, 155, 152, 152, 201, 249, 251, 251, 170, 155, 152, 152, 201, 249, 251, 251, 170, 144, 151, 52, 80, 105, 108, 207, 250, 242, 244, 87, 51, 11, 15, 172, 153, 238, 6, 218, 123, 135, 106, 21, 129, 117, 158, 66, 178, 126, 145, 238, 43, 127, 46, 43, 136, 248, 68, 62, 9, 141, 218, 124, 187, 243, 75, 146, 144, 236, 97, 75, 133, 20, 37, 117, 140, 153, 255, 9, 55, 106, 180, 155, 167, 33, 117, 23, 135, 53, 80, 98, 11, 172, 175, 107, 60, 198, 27, 240, 155, 14, 249, 3, 51, 59, 169, 97, 56, 151, 6, 10, 4, 81, 29, 250, 159, 177, 212, 216, 226], 54) := (wst_T (j := 32) (nk := 4) ezw32 rfl).trans (by decide +kernel)
theorem ezw34 : wst ezk 34 = ([0, 0, 0, 0, 0, 0, 0, 0, 0, 0, 0, 0, 0, 0, 0, 0, 98, 99, 99, 99, 98, 99, 99, 99, 98, 99, 99, 99, 98, 99, 99, 99, 155, 152, 152, 201, 249, 251, 251, 170, 155, 152, 152, 201, 249, 251, 251, 170, 144, 151, 52, 80, 105, 108, 207, 250, 242, 244, 87, 51, 11, 15, 172, 153, 238, 6, 218, 123, 135, 106, 21, 129, 117, 158, 66, 178, 126, 145, 238, 43, 127, 46, 43, 136, 248, 68, 62, 9, 141, 218, 124, 187, 243, 75, 146, 144, 236, 97, 75, 133, 20, 37, 117, 140, 153, 255, 9, 55, 106, 180, 155, 167, 33, 117, 23, 135, 53, 80, 98, 11, 172, 175, 107, 60, 198, 27, 240, 155, 14, 249, 3, 51, 59, 169, 97, 56, 151, 6, 10, 4, 81, 29, 250, 159, 177, 212, 216, 226, 138, 125, 185, 218], 54) := (wst_T (j := 33) (nk := 4) ezw33 rfl).trans (by decide +kernel)
theorem ezw35 : wst ezk 35 = ([0, 0, 0, 0, 0, 0, 0, 0, 0, 0, 0, 0, 0, 0, 0, 0, 98, 99, 99, 99, 98, 99, 99, 99, 98, 99, 99, 99, 98, 99, 99, 99, 155, 152, 152, 201, 249, 251, 251, 170, 155, 152, 152, 201, 249, 251, 251, 170, 144, 151, 52, 80, 105, 108, 207, 250, 242, 244, 87, 51, 11, 15, 172, 153, 238, 6, 218, 123, 135, 106, 21, 129, 117, 158, 66, 178, 126, 145, 238, 43, 127, 46, 43, 136, 248, 68, 62, 9, 141, 218, 124, 187, 243, 75, 146, 144, 236, 97, 75, 133, 20, 37, 117, 140, 153, 255, 9, 55, 106, 180, 155, 167, 33, 117, 23, 135, 53, 80, 98, 11, 172, 175, 107, 60, 198, 27, 240, 155, 14, 249, 3, 51, 59, 169, 97, 56, 151, 6, 10, 4, 81, 29, 250, 159, 177, 212, 216, 226, 138, 125, 185, 218, 29, 123, 179, 222], 54) := (wst_T (j := 34) (nk := 4) ezw34 rfl).trans (by decide +kernel)
theorem ezw36 : wst ezk 36 = ([0, 0, 0, 0, 0, 0, 0, 0, 0, 0, 0, 0, 0, 0, 0, 0, 98, 99, 99, 99, 98, 99, 99, 99, 98, 99, 99, 99, 98, 99, 99, 99, 155, 152, 152, 201, 249, 251, 251, 170, 155, 152, 152, 201, 249, 251, 251, 170, 144, 151, 52, 80, 105, 108, 207, 250, 242, 244, 87, 51, 11, 15, 172, 153, 238, 6, 218, 123, 135, 106, 21, 129, 117, 158, 66, 178, 126, 145, 238, 43, 127, 46, 43, 136, 248, 68, 62, 9, 141, 218, 124, 187, 243, 75, 146, 144, 236, 97, 75, 133, 20, 37, 117, 140, 153, 255, 9, 55, 106, 180, 155, 167, 33, 117, 23, 135, 53, 80, 98, 11, 172, 175, 107, 60, 198, 27, 240, 155, 14, 249, 3, 51, 59, 169, 97, 56, 151, 6, 10, 4, 81, 29, 250, 159, 177, 212, 216, 226, 138, 125, 185, 218, 29, 123, 179, 222, 76, 102, 73, 65], 54) := (wst_T (j := 35) (nk := 4) ezw35 rfl).trans (by decide +kernel)
theorem ezw37 : wst ezk 37 = ([0, 0, 0, 0, 0, 0, 0, 0, 0, 0, 0, 0, 0, 0, 0, 0, 98, 99, 99, 99, 98, 99, 99, 99, 98, 99, 99, 99, 98, 99, 99, 99, 155, 152, 152, 201, 249, 251, 251, 170, 155, 152, 152, 201, 249, 251, 251, 170, 144, 151, 52, 80, 105, 108, 207, 250, 242, 244, 87, 51, 11, 15, 172, 153, 238, 6, 218, 123, 135, 106, 21, 129, 117, 158, 66, 178, 126, 145, 238, 43, 127, 46, 43, 136, 248, 68, 62, 9, 141, 218, 124, 187, 243, 75, 146, 144, 236, 97, 75, 133, 20, 37, 117, 140, 153, 255, 9, 55, 106, 180, 155, 167, 33, 117, 23, 135, 53, 80, 98, 11, 172, 175, 107, 60, 198, 27, 240, 155, 14, 249, 3, 51, 59, 169, 97, 56, 151, 6, 10, 4, 81, 29, 250, 159, 177, 212, 216, 226, 138, 125, 185, 218, 29, 123, 179, 222, 76, 102, 73, 65, 180, 239, 91, 203], 108) := (wst_T (j := 36) (nk := 4) ezw36 rfl).trans (by decide +kernel)
theorem ezw38 : wst ezk 38 = ([0, 0, 0, 0, 0, 0, 0, 0, 0, 0, 0, 0, 0, 0, 0, 0, 98, 99, 99, 99, 98, 99, 99, 99, 98, 99, 99, 99, 98, 99, 99, 99, 155, 152, 152, 201, 249, 251, 251, 170, 155, 152, 152, 201, 249, 251, 251, 170, 144, 151, 52, 80, 105, 108, 207, 250, 242, 244, 87, 51, 11, 15, 172, 153, 238, 6, 218, 123, 135, 106, 21, 129, 117, 158, 66, 178, 126, 145, 238, 43, 127, 46, 43, 136, 248, 68, 62, 9, 141, 218, 124, 187, 243, 75, 146, 144, 236, 97, 75, 133, 20, 37, 117, 140, 153, 255, 9, 55, 106, 180, 155, 167, 33, 117, 23, 135, 53, 80, 98, 11, 172, 175, 107, 60, 198, 27, 240, 155, 14, 249, 3, 51, 59, 169, 97, 56, 151, 6, 10, 4, 81, 29, 250, 159, 177, 212, 216, 226, 138, 125, 185, 218, 29, 123, 179, 222, 76, 102, 73, 65, 180, 239, 91, 203, 62, 146, 226, 17], 108) := (wst_T (j := 37) (nk := 4) ezw37 rfl).trans (by decide +kernel)
theorem ezw39 : wst ezk 39 = ([0, 0, 0, 0, 0, 0, 0, 0, 0, 0, 0, 0, 0, 0, 0, 0, 98, 99, 99, 99, 98, 99, 99, 99, 98, 99, 99, 99, 98, 99, 99, 99, 155, 152, 152, 201, 249, 251, 251, 170, 155, 152, 152, 201, 249, 251, 251, 170, 144, 151, 52, 80, 105, 108, 207, 250, 242, 244, 87, 51, 11, 15, 172, 153, 238, 6, 218, 123, 135, 106, 21, 129, 117, 158, 66, 178, 126, 145, 238, 43, 127, 46, 43, 136, 248, 68, 62, 9, 141, 218, 124, 187, 243, 75, 146, 144, 236, 97, 75, 133, 20, 37, 117, 140, 153, 255, 9, 55, 106, 180, 155, 167, 33, 117, 23, 135, 53, 80, 98, 11, 172, 175, 107, 60, 198, 27, 240, 155, 14, 249, 3, 51, 59, 169, 97, 56, 151, 6, 10, 4, 81, 29, 250, 159, 177, 212, 216, 226, 138, 125, 185, 218, 29, 123, 179, 222, 76, 102, 73, 65, 180, 239, 91, 203, 62, 146, 226, 17, 35, 233, 81, 207], 108) := (wst_T (j := 38) (nk := 4) ezw38 rfl).trans (by decide +kernel)
theorem ezw40 : wst ezk 40 = ([0, 0, 0, 0, 0, 0, 0, 0, 0, 0, 0, 0, 0, 0, 0, 0, 98, 99, 99, 99, 98, 99, 99, 99, 98, 99, 99, 99, 98, 99, 99, 99, 155, 152, 152, 201, 249, 251, 251, 170, 155, 152, 152, 201, 249, 251, 251, 170, 144, 151, 52, 80, 105, 108, 207, 250, 242, 244, 87, 51, 11, 15, 172, 153, 238, 6, 218, 123, 135, 106, 21, 129, 117, 158, 66, 178, 126, 145, 238, 43, 127, 46, 43, 136, 248, 68, 62, 9, 141, 218, 124, 187, 243, 75, 146, 144, 236, 97, 75, 133, 20, 37, 117, 140, 153, 255, 9, 55, 106, 180, 155, 167, 33, 117, 23, 135, 53, 80, 98, 11, 172, 175, 107, 60, 198, 27, 240, 155, 14, 249, 3, 51, 59, 169, 97, 56, 151, 6, 10, 4, 81, 29, 250, 159, 177, 212, 216, 226, 138, 125, 185, 218, 29, 123, 179, 222, 76, 102, 73, 65, 180, 239, 91, 203, 62, 146, 226, 17, 35, 233, 81, 207, 111, 143, 24, 142], 108) := (wst_T (j := 39) (nk := 4) ezw39 rfl).trans (by decide +kernel)
def ezws : List UInt8 := [0, 0, 0, 0, 0, 0, 0, 0, 0, 0, 0, 0, 0, 0, 0, 0, 98, 99, 99, 99, 98, 99, 99, 99, 98, 99, 99, 99, 98, 99, 99, 99, 155, 152, 152, 201, 249, 251, 251, 170, 155, 152, 152, 201, 249, 251, 251, 170, 144, 151, 52, 80, 105, 108, 207, 250, 242, 244, 87, 51, 11, 15, 172, 153, 238, 6, 218, 123, 135, 106, 21, 129, 117, 158, 66, 178, 126, 145, 238, 43, 127, 46, 43, 136, 248, 68, 62, 9, 141, 218, 124, 187, 243, 75, 146, 144, 236, 97, 75, 133, 20, 37, 117, 140, 153, 255, 9, 55, 106, 180, 155, 167, 33, 117, 23, 135, 53, 80, 98, 11, 172, 175, 107, 60, 198, 27, 240, 155, 14, 249, 3, 51, 59, 169, 97, 56, 151, 6, 10, 4, 81, 29, 250, 159, 177, 212, 216, 226, 138, 125, 185, 218, 29, 123, 179, 222, 76, 102, 73, 65, 180, 239, 91, 203, 62, 146, 226, 17, 35, 233, 81, 207, 111, 143, 24, 142]
theorem ezw : pwords ezk = ezws := congrArg Prod.fst ezw40
theorem ez0s0 : encTo ezws [0, 0, 0, 0, 0, 0, 0, 0, 0, 0, 0, 0, 0, 0, 0, 0] 10 0 = [0, 0, 0, 0, 0, 0, 0, 0, 0, 0, 0, 0, 0, 0, 0, 0] := by decide +kernel
theorem ez0s1 : encTo ezws [0, 0, 0, 0, 0, 0, 0, 0, 0, 0, 0, 0, 0, 0, 0, 0] 10 1 = [1, 0, 0, 0, 1, 0, 0, 0, 1, 0, 0, 0, 1, 0, 0, 0] := (enc_T (k := 0) ez0s0).trans (by decide +kernel)
theorem ez0s2 : encTo ezws [0, 0, 0, 0, 0, 0, 0, 0, 0, 0, 0, 0, 0, 0, 0, 0] 10 2 = [198, 228, 228, 139, 164, 135, 135, 232, 198, 228, 228, 139, 164, 135, 135, 232] := (enc_T (k := 1) ez0s1).trans (by decide +kernel)
theorem ez0s3 : encTo ezws [0, 0, 0, 0, 0, 0, 0, 0, 0, 0, 0, 0, 0, 0, 0, 0] 10 3 = [40, 45, 243, 196, 106, 243, 134, 37, 74, 78, 144, 167, 8, 144, 229, 70] := (enc_T (k := 2) ez0s2).trans (by decide +kernel)
theorem ez0s4 : encTo ezws [0, 0, 0, 0, 0, 0, 0, 0, 0, 0, 0, 0, 0, 0, 0, 0] 10 4 = [171, 210, 205, 254, 55, 90, 181, 73, 80, 160, 175, 192, 117, 154, 106, 95] := (enc_T (k := 3) ez0s3).trans (by decide +kernel)
theorem ez0s5 : encTo ezws [0, 0, 0, 0, 0, 0, 0, 0, 0, 0, 0, 0, 0, 0, 0, 0] 10 5 = [212, 111, 79, 108, 85, 184, 150, 51, 126, 5, 187, 61, 121, 121, 222, 35] := (enc_T (k := 4) ez0s4).trans (by decide +kernel)
theorem ez0s6 : encTo ezws [0, 0, 0, 0, 0, 0, 0, 0, 0, 0, 0, 0, 0, 0, 0, 0] 10 6 = [4, 242, 202, 151, 7, 120, 40, 69, 226, 47, 1, 150, 73, 197, 215, 16] := (enc_T (k := 5) ez0s5).trans (by decide +kernel)
theorem ez0s7 : encTo ezws [0, 0, 0, 0, 0, 0, 0, 0, 0, 0, 0, 0, 0, 0, 0, 0] 10 7 = [183, 170, 228, 197, 29, 37, 45, 79, 108, 146, 15, 129, 148, 229, 129, 80] := (enc_T (k := 6) ez0s6).trans (by decide +kernel)
theorem ez0s8 : encTo ezws [0, 0, 0, 0, 0, 0, 0, 0, 0, 0, 0, 0, 0, 0, 0, 0] 10 8 = [35, 231, 140, 60, 19, 33, 99, 219, 170, 192, 198, 87, 46, 3, 203, 149] := (enc_T (k := 7) ez0s7).trans (by decide +kernel)
theorem ez0s9 : encTo ezws [0, 0, 0, 0, 0, 0, 0, 0, 0, 0, 0, 0, 0, 0, 0, 0] 10 9 = [127, 254, 14, 149, 81, 165, 102, 53, 14, 52, 124, 71, 41, 41, 236, 203] := (enc_T (k := 8) ez0s8).trans (by decide +kernel)
theorem ez0s10 : encTo ezws [0, 0, 0, 0, 0, 0, 0, 0, 0, 0, 0, 0, 0, 0, 0, 0] 10 10 = [102, 233, 75, 212, 239, 138, 44, 59, 136, 76, 250, 89, 202, 52, 43, 46] := (enc_T (k := 9) ez0s9).trans (by decide +kernel)
theorem ez0 : pEnc ezk [0, 0, 0, 0, 0, 0, 0, 0, 0, 0, 0, 0, 0, 0, 0, 0] = [102, 233, 75, 212, 239, 138, 44, 59, 136, 76, 250, 89, 202, 52, 43, 46] := by
  unfold pEnc
  rw [ezw]
  exact ez0s10
theorem ez1s0 : encTo ezws [102, 233, 75, 212, 239, 138, 44, 59, 136, 76, 250, 89, 202, 52, 43, 46] 10 0 = [102, 233, 75, 212, 239, 138, 44, 59, 136, 76, 250, 89, 202, 52, 43, 46] := by decide +kernel
theorem ez1s1 : encTo ezws [102, 233, 75, 212, 239, 138, 44, 59, 136, 76, 250, 89, 202, 52, 43, 46] 10 1 = [154, 234, 39, 7, 5, 174, 180, 81, 136, 187, 255, 64, 18, 115, 173, 29] := (enc_T (k := 0) ez1s0).trans (by decide +kernel)
theorem ez1s2 : encTo ezws [102, 233, 75, 212, 239, 138, 44, 59, 136, 76, 250, 89, 202, 52, 43, 46] 10 2 = [117, 109, 31, 187, 90, 62, 31, 249, 159, 199, 56, 100, 102, 162, 175, 242] := (enc_T (k := 1) ez1s1).trans (by decide +kernel)
theorem ez1s3 : encTo ezws [102, 233, 75, 212, 239, 138, 44, 59, 136, 76, 250, 89, 202, 52, 43, 46] 10 3 = [242, 245, 149, 80, 204, 36, 96, 83, 72, 153, 157, 150, 170, 92, 253, 182] := (enc_T (k := 2) ez1s2).trans (by decide +kernel)
theorem ez1s4 : encTo ezws [102, 233, 75, 212, 239, 138, 44, 59, 136, 76, 250, 89, 202, 52, 43, 46] 10 4 = [173, 79, 11, 15, 63, 73, 237, 64, 200, 203, 34, 229, 76, 17, 180, 201] := (enc_T (k := 3) ez1s3).trans (by decide +kernel)
theorem ez1s5 : encTo ezws [102, 233, 75, 212, 239, 138, 44, 59, 136, 76, 250, 89, 202, 52, 43, 46] 10 5 = [77, 190, 196, 37, 200, 245, 207, 232, 249, 89, 91, 35, 186, 87, 229, 147] := (enc_T (k := 4) ez1s4).trans (by decide +kernel)
theorem ez1s6 : encTo ezws [102, 233, 75, 212, 239, 138, 44, 59, 136, 76, 250, 89, 202, 52, 43, 46] 10 6 = [229, 194, 67, 199, 127, 15, 190, 195, 218, 111, 69, 237, 220, 164, 164, 200] := (enc_T (k := 5) ez1s5).trans (by decide +kernel)
theorem ez1s7 : encTo ezws [102, 233, 75, 212, 239, 138, 44, 59, 136, 76, 250, 89, 202, 52, 43, 46] 10 7 = [148, 26, 71, 36, 230, 212, 219, 16, 237, 106, 51, 202, 69, 107, 235, 43] := (enc_T (k := 6) ez1s6).trans (by decide +kernel)
theorem ez1s8 : encTo ezws [102, 233, 75, 212, 239, 138, 44, 59, 136, 76, 250, 89, 202, 52, 43, 46] 10 8 = [160, 228, 252, 39, 229, 53, 126, 54, 214, 156, 62, 171, 189, 136, 195, 222] := (enc_T (k := 7) ez1s7).trans (by decide +kernel)
theorem ez1s9 : encTo ezws [102, 233, 75, 212, 239, 138, 44, 59, 136, 76, 250, 89, 202, 52, 43, 46] 10 9 = [100, 211, 246, 199, 184, 189, 173, 217, 8, 208, 245, 161, 146, 162, 1, 145] := (enc_T (k := 8) ez1s8).trans (by decide +kernel)
theorem ez1s10 : encTo ezws [102, 233, 75, 212, 239, 138, 44, 59, 136, 76, 250, 89, 202, 52, 43, 46] 10 10 = [247, 149, 189, 74, 82, 226, 158, 215, 19, 211, 19, 250, 32, 233, 141, 188] := (enc_T (k := 9) ez1s9).trans (by decide +kernel)
theorem ez1 : pEnc ezk [102, 233, 75, 212, 239, 138, 44, 59, 136, 76, 250, 89, 202, 52, 43, 46] = [247, 149, 189, 74, 82, 226, 158, 215, 19, 211, 19, 250, 32, 233, 141, 188] := by
  unfold pEnc
  rw [ezw]
  exact ez1s10
end Lk
