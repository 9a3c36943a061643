/- A text's blocks, chained. -/
import Derived.Test.YtjbdhnmkeaogcaaChn
import Derived.Conc.PipeWords
set_option linter.unusedVariables false
set_option linter.unusedSimpArgs false
namespace Lk
open Go Go.RowKit
/-- the k-th block of n bytes -/
def blkAt (t : List UInt8) (n k : Nat) : List UInt8 := (t.drop (n * k)).take n
/-- what is enciphered of k blocks, and the last one -/
def chTo (kind : Nat) (key start text : List UInt8) : Nat → List UInt8 × List UInt8
  | 0 => ([], start)
  | k + 1 => ((chTo kind key start text k).1 ++ pdo kind key (pxor (blkAt text (psize kind) k) (chTo kind key start text k).2) false, pdo kind key (pxor (blkAt text (psize kind) k) (chTo kind key start text k).2) false)
theorem Cip.row {w w1 : World} {B g3 : Nat} {q : Value} {kind : Nat} {key : List UInt8} (h : Cip w B q kind key) (hG : w.grownBy w1 (some g3)) (hb : B ≤ g3) : Cip w1 B q kind key := by
  obtain ⟨g, v, bk, h1, h2, h3, h4, h5, h6, h7⟩ := h
  have hn : (some g3 : Option Nat) ≠ some g := by simp; omega
  refine ⟨g, v, bk, h1, h2, h3, cell_old h4 hG hn, cell_old h5 hG hn, cell_old h6 hG hn, h7.old hG ?_⟩
  cases hv : v.ownBlock with
  | none => exact .inl rfl
  | some k => exact .inr (by have := h3 k hv; simp; omega)
theorem chTo_last (kind : Nat) (key start text : List UInt8) (k : Nat) (hk : kind = 1 ∨ kind = 2) (hs : start.length = psize kind) : (chTo kind key start text k).2.length = psize kind := by
  cases k
  · exact hs
  · exact pdo_len _ _ _ _ hk
theorem chTo_len (kind : Nat) (key start text : List UInt8) (k : Nat) (hk : kind = 1 ∨ kind = 2) : (chTo kind key start text k).1.length = psize kind * k := by
  induction k with
  | zero => simp [chTo]
  | succ k ih => simp only [chTo]; rw [List.length_append, ih, pdo_len _ _ _ _ hk, Nat.mul_succ]
end Lk
namespace Go.Proofs.Ytjbdhnmkeaogcaa
open Go.RowKit Lk
set_option maxHeartbeats 1600000 in
set_option maxRecDepth 100000 in
theorem each2 (q vt vl0 : Value) (B g1 g2 g3 m : Nat) (key start text : List UInt8) (w : World) (h : Cip w B q 2 key) (hB : B ≤ g3) (hf : pfits 2 key.length = true) (hs : SlB w vt text) (ht : text.length = 8 * m) (hm : 0 < m) (hmx : m ≤ 100000)
    (htb : ∀ j, vt.ownBlock = some j → j < g3) (hv : SlB w vl0 start) (hl : start.length = 8) (h1 : One w g1 4 (.bool false)) (hg1 : g1 < g3) (h2 : One w g2 25 q) (hg2 : g2 < g3) (h3 : One w g3 22 vl0) :
    Calls Try.prog 69 #[q, vt, .func (.func 70) #[] #[.pointer (some ⟨g1, 0, none⟩), .pointer (some ⟨g2, 0, none⟩), .pointer (some ⟨g3, 0, none⟩)]] w fun e w' =>
      ∃ v, e = .returned (.tuple #[v, .nilIface]) ∧ Own w' w.heap.size v (chTo 2 key start text m).1 ∧ w.grownBy w' (some g3) := by
  obtain ⟨n, hn⟩ : ∃ n, w.heap.size = n := ⟨_, rfl⟩
  have Hn := Lib.hid hn
  have hg3 : g3 < n := by rw [← hn]; exact h3.lt
  have HS := Lib.hid (Size_any q 2 B key w h)
  have HC := Lib.hid h
  have H1 := Lib.hid h1
  have H2 := Lib.hid h2
  have H3 := Lib.hid h3
  have HV := Lib.hid hv
  have HF := Lib.hid hf
  have HSL := Lib.hid hl
  obtain ⟨A, ct, rfl, _, hlc, hcm, hr⟩ := hs
  obtain ⟨gt, ot, rfl, hrd⟩ := hr (by omega)
  have hgt : gt < g3 := htb gt rfl
  have HRD := Lib.hid hrd
  have HT := Lib.hid ht
  obtain ⟨L, eL⟩ : ∃ L, text.length = L := ⟨_, rfl⟩
  rw [eL] at ht hlc ⊢
  have hrem' : (L : Int) % 8 = 0 := by omega
  have EL := Lib.hid eL
  clear h h1 h2 h3 hv hf hl hr hrd htb eL
  go_enter Try.func69, Try.ntmps69
  go_wp2_with (go_at_call 32; refine HS.out.mono ?_; rintro e w0 ⟨rfl, rfl⟩; rw [show psize 2 = 8 from rfl])
  clear hrem'
  subst ht
  go_loopw [9, 10] (fun o i wr => ∃ (k : Nat) (vl vo : Value), k ≤ m ∧ i = .int .i64 ((8 * k : Nat) : Int) ∧ vo = o ∧ Own wr n vo (chTo 2 key start text k).1 ∧ One wr g3 22 vl ∧ SlB wr vl (chTo 2 key start text k).2 ∧ w0.grownBy wr (some g3)) (fun _ i _ => 8 * m - (intOf i).toNat)
  case atStart => exact ⟨0, vl0, _, by omega, rfl, rfl, own_nil _ _, H3.out, HV.out, grown_refl _ _⟩
  case round =>
    obtain ⟨k, vl, o, hk, rfl, ho0, hO, h3, hV, hG⟩ := hrel
    subst ho0
    obtain ⟨i, ei⟩ : ∃ i, 8 * k = i := ⟨_, rfl⟩
    rw [ei]
    have HO := Lib.hid hO
    have H3k := Lib.hid h3
    have HVk := Lib.hid hV
    have HG := Lib.hid hG
    have EI := Lib.hid ei
    by_cases hlt : k < m
    · have hi1 : i < 8 * m := by omega
      have hi2 : i + 8 ≤ 8 * m := by omega
      have hi3 : i + 8 ≤ ct := by omega
      have i1 : (i : Int) < 8 * (m : Int) := by omega
      have i2 : (i : Int) + 8 ≤ 8 * (m : Int) := by omega
      have i3 : (i : Int) + 8 ≤ (ct : Int) := by omega
      have HLT := Lib.hid hlt
      obtain ⟨lst, el⟩ : ∃ lst, (chTo 2 key start text k).2 = lst := ⟨_, rfl⟩
      obtain ⟨acc, ea⟩ : ∃ acc, (chTo 2 key start text k).1 = acc := ⟨_, rfl⟩
      have hll : lst.length = 8 := by rw [← el]; exact chTo_last 2 key start text k (.inr rfl) HSL.out
      have hal : acc.length = 8 * k := by rw [← ea]; exact chTo_len 2 key start text k (.inr rfl)
      rw [el] at hV
      rw [ea] at hO
      obtain ⟨bk, eb⟩ : ∃ bk, blkAt text 8 k = bk := ⟨_, rfl⟩
      have hbl : bk.length = 8 := by rw [← eb]; unfold blkAt; rw [List.length_take, List.length_drop, HT.out]; omega
      have hsb : SlB wr (.slice (some ⟨gt, ot + i, none⟩) 8 (ct - i)) bk := by
        refine ⟨_, _, by rw [hbl], fun h => (by cases h), by omega, by omega, fun _ => ⟨gt, ot + i, rfl, ?_⟩⟩
        have h := Rd.sub (HRD.out.old hG (by simp; omega)) i 8 (by rw [HT.out]; omega)
        rw [← eb]; unfold blkAt; rw [ei]; exact h
      have hch := chain1 q (.slice (some ⟨gt, ot + i, none⟩) 8 (ct - i)) vl B 2 g1 g2 g3 key bk lst wr (.inr rfl) (HC.out.row hG hB) (by have := hG.size; omega) HF.out hsb hbl hV hll (H1.out.old hG (by simp; omega)) (H2.out.old hG (by simp; omega)) h3
      obtain ⟨r, er⟩ : ∃ r, pdo 2 key (pxor bk lst) false = r := ⟨_, rfl⟩
      have hrl : r.length = 8 := by rw [← er]; exact pdo_len 2 _ _ _ (.inr rfl)
      rw [er] at hch
      have hstep : chTo 2 key start text (k + 1) = (acc ++ r, r) := by
        show ((chTo 2 key start text k).1 ++ pdo 2 key (pxor (blkAt text 8 k) (chTo 2 key start text k).2) false, pdo 2 key (pxor (blkAt text 8 k) (chTo 2 key start text k).2) false) = _
        rw [el, ea, eb, er]
      have HCH := Lib.hid hch
      have HST := Lib.hid hstep
      have HRL := Lib.hid hrl
      have HAL := Lib.hid hal
      have HOk := Lib.hid hO
      clear hO h3 hV hG ei hlt el ea eb er hll hal hbl hsb hch hrl hstep HO HVk
      go_wp2_with (first
        | (go_at_call 70; refine HCH.out.mono ?_; rintro e w1 ⟨v1, rfl, hN1, h31, hG1⟩; obtain ⟨x1, T1, hT1, rfl, hx1, hBx1⟩ := id hN1)
        | (at_builtin; refine append_b hu_sl hu_u8 rfl _ _ rfl n o acc rfl (HOk.out.kept hG1 (by
              cases ho : o.ownBlock with
              | none => exact .inl rfl
              | some j => exact .inr (by have := (HOk.out.lt j ho).1; simp; omega))) _ r rfl (hN1.new.slB (by rw [HRL.out]; decide)) (by rw [HRL.out, HAL.out]; omega) (by have := HG.out.size; have := hG1.size; omega) ?_; intro v2 w2 hO2 hG2))
      go_roundw
      case rel =>
        have hob : ∀ j, o.ownBlock = some j → n ≤ j := fun j hj => (HOk.out.lt j hj).1
        have hO1 : Own w1 n o acc := HOk.out.kept hG1 (by
              cases ho : o.ownBlock with
              | none => exact .inl rfl
              | some j => exact .inr (by have := hob j ho; simp; omega))
        have hne3 : o.ownBlock ≠ some g3 := fun e => by have := hob g3 e; omega
        refine ⟨k + 1, _, _, HLT.out, by have := EI.out; congr 1; omega, rfl, by rw [HST.out]; exact hO2, h31.old hG2 hne3, ?_, ?_⟩
        · obtain ⟨x, T, hT, e, hx, hBx⟩ := hN1
          have hBx2 := hBx.old hG2 (hO1.ne_blk hBx hT)
          rw [HST.out]
          exact New.slB ⟨x, T, e, Nat.zero_le _, hBx2⟩ (by rw [HRL.out]; decide)
        · have hT := grown_trans HG.out hG1
          have hsz : w0.heap.size ≤ w1.heap.size := hT.size
          exact ⟨hG2.os.trans hT.os, hG2.tape.trans hT.tape, hG2.output.trans hT.output, Nat.le_trans hsz hG2.size, fun j hj hr => by
            rw [hG2.block j (by omega) (fun e => by have := hob j e.symm; omega)]; exact hT.block j hj hr⟩
      case measure => have := EI.out; have : k < m := HLT.out; simp [intOf]; omega
    · have hkm : k = m := by omega
      have HE := Lib.hid hkm
      have i1 : ¬ (i : Int) < 8 * (m : Int) := by omega
      clear hO h3 hV hG ei hlt hkm
      go_wp2
      go_ret2
      refine ⟨_, rfl, ?_, HG.out⟩
      have := HO.out
      rw [HE.out] at this
      exact this
set_option maxHeartbeats 1600000 in
set_option maxRecDepth 100000 in
theorem each1 (q vt vl0 : Value) (B g1 g2 g3 m : Nat) (key start text : List UInt8) (w : World) (h : Cip w B q 1 key) (hB : B ≤ g3) (hf : pfits 1 key.length = true) (hs : SlB w vt text) (ht : text.length = 16 * m) (hm : 0 < m) (hmx : m ≤ 100000)
    (htb : ∀ j, vt.ownBlock = some j → j < g3) (hv : SlB w vl0 start) (hl : start.length = 16) (h1 : One w g1 4 (.bool false)) (hg1 : g1 < g3) (h2 : One w g2 25 q) (hg2 : g2 < g3) (h3 : One w g3 22 vl0) :
    Calls Try.prog 69 #[q, vt, .func (.func 70) #[] #[.pointer (some ⟨g1, 0, none⟩), .pointer (some ⟨g2, 0, none⟩), .pointer (some ⟨g3, 0, none⟩)]] w fun e w' =>
      ∃ v, e = .returned (.tuple #[v, .nilIface]) ∧ Own w' w.heap.size v (chTo 1 key start text m).1 ∧ w.grownBy w' (some g3) := by
  obtain ⟨n, hn⟩ : ∃ n, w.heap.size = n := ⟨_, rfl⟩
  have Hn := Lib.hid hn
  have hg3 : g3 < n := by rw [← hn]; exact h3.lt
  have HS := Lib.hid (Size_any q 1 B key w h)
  have HC := Lib.hid h
  have H1 := Lib.hid h1
  have H2 := Lib.hid h2
  have H3 := Lib.hid h3
  have HV := Lib.hid hv
  have HF := Lib.hid hf
  have HSL := Lib.hid hl
  obtain ⟨A, ct, rfl, _, hlc, hcm, hr⟩ := hs
  obtain ⟨gt, ot, rfl, hrd⟩ := hr (by omega)
  have hgt : gt < g3 := htb gt rfl
  have HRD := Lib.hid hrd
  have HT := Lib.hid ht
  obtain ⟨L, eL⟩ : ∃ L, text.length = L := ⟨_, rfl⟩
  rw [eL] at ht hlc ⊢
  have hrem' : (L : Int) % 16 = 0 := by omega
  have EL := Lib.hid eL
  clear h h1 h2 h3 hv hf hl hr hrd htb eL
  go_enter Try.func69, Try.ntmps69
  go_wp2_with (go_at_call 32; refine HS.out.mono ?_; rintro e w0 ⟨rfl, rfl⟩; rw [show psize 1 = 16 from rfl])
  clear hrem'
  subst ht
  go_loopw [9, 10] (fun o i wr => ∃ (k : Nat) (vl vo : Value), k ≤ m ∧ i = .int .i64 ((16 * k : Nat) : Int) ∧ vo = o ∧ Own wr n vo (chTo 1 key start text k).1 ∧ One wr g3 22 vl ∧ SlB wr vl (chTo 1 key start text k).2 ∧ w0.grownBy wr (some g3)) (fun _ i _ => 16 * m - (intOf i).toNat)
  case atStart => exact ⟨0, vl0, _, by omega, rfl, rfl, own_nil _ _, H3.out, HV.out, grown_refl _ _⟩
  case round =>
    obtain ⟨k, vl, o, hk, rfl, ho0, hO, h3, hV, hG⟩ := hrel
    subst ho0
    obtain ⟨i, ei⟩ : ∃ i, 16 * k = i := ⟨_, rfl⟩
    rw [ei]
    have HO := Lib.hid hO
    have H3k := Lib.hid h3
    have HVk := Lib.hid hV
    have HG := Lib.hid hG
    have EI := Lib.hid ei
    by_cases hlt : k < m
    · have hi1 : i < 16 * m := by omega
      have hi2 : i + 16 ≤ 16 * m := by omega
      have hi3 : i + 16 ≤ ct := by omega
      have i1 : (i : Int) < 16 * (m : Int) := by omega
      have i2 : (i : Int) + 16 ≤ 16 * (m : Int) := by omega
      have i3 : (i : Int) + 16 ≤ (ct : Int) := by omega
      have HLT := Lib.hid hlt
      obtain ⟨lst, el⟩ : ∃ lst, (chTo 1 key start text k).2 = lst := ⟨_, rfl⟩
      obtain ⟨acc, ea⟩ : ∃ acc, (chTo 1 key start text k).1 = acc := ⟨_, rfl⟩
      have hll : lst.length = 16 := by rw [← el]; exact chTo_last 1 key start text k (.inl rfl) HSL.out
      have hal : acc.length = 16 * k := by rw [← ea]; exact chTo_len 1 key start text k (.inl rfl)
      rw [el] at hV
      rw [ea] at hO
      obtain ⟨bk, eb⟩ : ∃ bk, blkAt text 16 k = bk := ⟨_, rfl⟩
      have hbl : bk.length = 16 := by rw [← eb]; unfold blkAt; rw [List.length_take, List.length_drop, HT.out]; omega
      have hsb : SlB wr (.slice (some ⟨gt, ot + i, none⟩) 16 (ct - i)) bk := by
        refine ⟨_, _, by rw [hbl], fun h => (by cases h), by omega, by omega, fun _ => ⟨gt, ot + i, rfl, ?_⟩⟩
        have h := Rd.sub (HRD.out.old hG (by simp; omega)) i 16 (by rw [HT.out]; omega)
        rw [← eb]; unfold blkAt; rw [ei]; exact h
      have hch := chain1 q (.slice (some ⟨gt, ot + i, none⟩) 16 (ct - i)) vl B 1 g1 g2 g3 key bk lst wr (.inl rfl) (HC.out.row hG hB) (by have := hG.size; omega) HF.out hsb hbl hV hll (H1.out.old hG (by simp; omega)) (H2.out.old hG (by simp; omega)) h3
      obtain ⟨r, er⟩ : ∃ r, pdo 1 key (pxor bk lst) false = r := ⟨_, rfl⟩
      have hrl : r.length = 16 := by rw [← er]; exact pdo_len 1 _ _ _ (.inl rfl)
      rw [er] at hch
      have hstep : chTo 1 key start text (k + 1) = (acc ++ r, r) := by
        show ((chTo 1 key start text k).1 ++ pdo 1 key (pxor (blkAt text 16 k) (chTo 1 key start text k).2) false, pdo 1 key (pxor (blkAt text 16 k) (chTo 1 key start text k).2) false) = _
        rw [el, ea, eb, er]
      have HCH := Lib.hid hch
      have HST := Lib.hid hstep
      have HRL := Lib.hid hrl
      have HAL := Lib.hid hal
      have HOk := Lib.hid hO
      clear hO h3 hV hG ei hlt el ea eb er hll hal hbl hsb hch hrl hstep HO HVk
      go_wp2_with (first
        | (go_at_call 70; refine HCH.out.mono ?_; rintro e w1 ⟨v1, rfl, hN1, h31, hG1⟩; obtain ⟨x1, T1, hT1, rfl, hx1, hBx1⟩ := id hN1)
        | (at_builtin; refine append_b hu_sl hu_u8 rfl _ _ rfl n o acc rfl (HOk.out.kept hG1 (by
              cases ho : o.ownBlock with
              | none => exact .inl rfl
              | some j => exact .inr (by have := (HOk.out.lt j ho).1; simp; omega))) _ r rfl (hN1.new.slB (by rw [HRL.out]; decide)) (by rw [HRL.out, HAL.out]; omega) (by have := HG.out.size; have := hG1.size; omega) ?_; intro v2 w2 hO2 hG2))
      go_roundw
      case rel =>
        have hob : ∀ j, o.ownBlock = some j → n ≤ j := fun j hj => (HOk.out.lt j hj).1
        have hO1 : Own w1 n o acc := HOk.out.kept hG1 (by
              cases ho : o.ownBlock with
              | none => exact .inl rfl
              | some j => exact .inr (by have := hob j ho; simp; omega))
        have hne3 : o.ownBlock ≠ some g3 := fun e => by have := hob g3 e; omega
        refine ⟨k + 1, _, _, HLT.out, by have := EI.out; congr 1; omega, rfl, by rw [HST.out]; exact hO2, h31.old hG2 hne3, ?_, ?_⟩
        · obtain ⟨x, T, hT, e, hx, hBx⟩ := hN1
          have hBx2 := hBx.old hG2 (hO1.ne_blk hBx hT)
          rw [HST.out]
          exact New.slB ⟨x, T, e, Nat.zero_le _, hBx2⟩ (by rw [HRL.out]; decide)
        · have hT := grown_trans HG.out hG1
          have hsz : w0.heap.size ≤ w1.heap.size := hT.size
          exact ⟨hG2.os.trans hT.os, hG2.tape.trans hT.tape, hG2.output.trans hT.output, Nat.le_trans hsz hG2.size, fun j hj hr => by
            rw [hG2.block j (by omega) (fun e => by have := hob j e.symm; omega)]; exact hT.block j hj hr⟩
      case measure => have := EI.out; have : k < m := HLT.out; simp [intOf]; omega
    · have hkm : k = m := by omega
      have HE := Lib.hid hkm
      have i1 : ¬ (i : Int) < 16 * (m : Int) := by omega
      clear hO h3 hV hG ei hlt hkm
      go_wp2
      go_ret2
      refine ⟨_, rfl, ?_, HG.out⟩
      have := HO.out
      rw [HE.out] at this
      exact this
end Go.Proofs.Ytjbdhnmkeaogcaa
