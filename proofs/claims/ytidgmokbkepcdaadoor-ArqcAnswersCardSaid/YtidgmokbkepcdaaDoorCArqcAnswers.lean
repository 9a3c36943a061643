/- For every key, every code, every answer, every status and every further bytes the law ArqcAnswers of the layer of cryptograms returns true (the answers of both methods are the reference's, or why there is none), and its arguments read as they did; the variable errors.errorType starts as the program lays it. -/
import Derived.Test.YtidgmokbkepcdaaDoorKR0
import Derived.Test.YtidgmokbkepcdaaDoorKB5
import Derived.Test.YtidgmokbkepcdaaDoorKA0
import Derived.Test.YtidgmokbkepcdaaDoorKM0
import Derived.Test.YtidgmokbkepcdaaDoorKB7
import Derived.Test.YtidgmokbkepcdaaDoorKG0
import Derived.Test.YtidgmokbkepcdaaDoorKB0
import Derived.WalkKit
import Derived.ProofKit
import Derived.OpenShut
import Derived.ShutString
import Derived.ChangeOld
import Derived.SizedLaws
import Derived.ChangeSlices
import Derived.Test.YtidgmokbkepcdaaDoorRows
import Derived.Test.YtidgmokbkepcdaaDoorKB6
import Derived.ChangeSame
import Derived.ChangeVars
import Derived.JoinedOf
import Derived.RowKit
import Derived.RowKitTokens
import Derived.LaidLaws
import Derived.LaidHandle
import Derived.Stop.Joined
import Derived.SevenTiedAt
import Derived.Test.YtidgmokbkepcdaaDoorCards
import Derived.Test.YtidgmokbkepcdaaDoorTie
set_option linter.unusedVariables false
set_option linter.unusedSimpArgs false
namespace Go.Proofs.YtidgmokbkepcdaaDoor
open Go Go.RowKit Lk
set_option maxHeartbeats 6400000 in
set_option maxRecDepth 100000 in
theorem rRetail_any (vk vt : Value) (key text : List UInt8) (w : World) (hk : SlB w vk key) (hkl : key.length = 16) (hs : SlB w vt text) (hl : text.length ≤ 1000) :
    Calls Tryd.prog 26 #[vk, vt] w fun e w' => ∃ v, e = .returned v ∧ Own w' w.heap.size v (pretail key text) ∧ Below w.heap.size w w' := by
  obtain ⟨N, hN⟩ : ∃ N, w.heap.size = N := ⟨_, rfl⟩
  have HN := Lib.hid hN
  have HK := Lib.hid hk
  obtain ⟨A, c, rfl, _, c1, c2, n4⟩ := hk
  rw [hkl] at HK c1 ⊢
  obtain ⟨gk, ok, rfl, _⟩ := n4 (by omega)
  have HKL := Lib.hid hkl
  have HPD := Lib.hid (rPad_any vt text 8 w hs (by omega) (by decide) (by decide))
  obtain ⟨A9, c9, rfl, _⟩ := hs
  have hpm := ppad_mod text 8 (by decide)
  have hpl := ppad_len text 8
  have hpz := pzeros_lt text.length 8 (by decide)
  obtain ⟨t, et⟩ : ∃ t, ppad text 8 = t := ⟨_, rfl⟩
  obtain ⟨m, em⟩ : ∃ m, t.length / 8 = m := ⟨_, rfl⟩
  rw [et] at hpm hpl HPD
  have htl : t.length = 8 * m := by omega
  have hm0 : 0 < m := by omega
  have hmx : m ≤ 1000 := by omega
  have HTL := Lib.hid htl
  obtain ⟨k1, ek1⟩ : ∃ k, key.take 8 = k := ⟨_, rfl⟩
  obtain ⟨k2, ek2⟩ : ∃ k, key.drop 8 = k := ⟨_, rfl⟩
  have HK1 := Lib.hid (show k1.length = 8 by rw [← ek1, List.length_take, hkl]; rfl)
  have HK2 := Lib.hid (show k2.length = 8 by rw [← ek2, List.length_drop, hkl])
  have HEK1 := Lib.hid ek1
  have HEK2 := Lib.hid ek2
  have HRT := Lib.hid (show pretail key text = dblock k1 (dblock k2 (pchain 2 k1 t m) true) false by
    unfold pretail; rw [et, em, ek1, ek2, ptriple8 _ _ _ HK1.out, ptriple8 _ _ _ HK2.out])
  clear n4 hkl hpm hpl hpz et em htl ek1 ek2 hN
  go_enter Tryd.func26, Tryd.ntmps26
  go_wp2_with (first
    | (go_at_call 42; refine HPD.out.mono ?_; rintro e w1 ⟨v1, rfl, hO1, hL1⟩; obtain ⟨gt, ct, et, hgt, _, _, _, hct⟩ := hO1.form (by rw [HTL.out]; omega); rw [HTL.out] at et hct; subst et; have HO1 := Lib.hid hO1; have HL1 := Lib.hid hL1; clear hO1 hL1 hgt)
    | ((with_reducible show wpList _ _ _ _ _ w1); refine make_new (w := w1) rfl 22 5 _ _ rfl 8 (by kernel_rfl) (by kernel_rfl) .i64 .i64 rfl rfl (by omega) ?_; intro w2 hB2 hG2 hz2; have HS2 := Lib.hid (hB2.slB (n := 8) rfl (by decide)); have HL2 := Lib.hid (show Below w1.heap.size w1 w2 from below_none (Below.refl _ _) (Nat.le_refl _) hG2); have HT2 := Lib.hid (HO1.out.slB.below HL2.out); have HM2 := Lib.hid (below_more HL1.out HL2.out HL1.out.size); have HKW := Lib.hid (HK.out.below HM2.out); obtain ⟨gx, egx⟩ : ∃ g, w1.heap.size = g := ⟨_, rfl⟩; rw [egx] at HS2 ⊢; clear hB2 hG2 hz2 egx))
  go_loopw [6, 7] (fun xv i wr => ∃ (j gx ox cx : Nat), j ≤ m ∧ i = .int .i64 ((8 * j : Nat) : Int) ∧ xv = .slice (some ⟨gx, ox, none⟩) 8 cx ∧ SlB wr (.slice (some ⟨gx, ox, none⟩) 8 cx) (chTo 2 k1 (List.replicate 8 0) t j).2 ∧ Below w2.heap.size w2 wr) (fun _ i _ => 8 * m - (intOf i).toNat)
  case atStart => exact ⟨0, gx, 0, 8, by omega, rfl, rfl, HS2.out, Below.refl _ _⟩
  case round =>
    clear HS2
    obtain ⟨j, gx, ox, cx, hj, rfl, rfl, hX, hB⟩ := hrel
    have HX := Lib.hid hX
    have HB := Lib.hid hB
    have HXL := Lib.hid (show (chTo 2 k1 (List.replicate 8 0) t j).2.length = 8 from chTo_last 2 _ _ _ j (by decide) rfl)
    obtain ⟨i, ei⟩ : ∃ i, 8 * j = i := ⟨_, rfl⟩
    obtain ⟨T, eT⟩ : ∃ T, 8 * m = T := ⟨_, rfl⟩
    rw [ei]
    have hTb : T ≤ 8000 := by omega
    rw [eT] at hct HT2 HTL ⊢
    have EI := Lib.hid ei
    have ET := Lib.hid eT
    by_cases hlt : j < m
    · have HLT := Lib.hid hlt
      have hi1 : (i : Int) < (T : Int) := by omega
      have hi2 : i + 8 ≤ T := by omega
      have hct2 : T ≤ ct := by omega
      have HBA := Lib.hid (show (blkAt t 8 j).length = 8 from blkAt_len t 8 m j (by rw [HTL.out, ET.out]) hlt)
      have HNX := Lib.hid (show (chTo 2 k1 (List.replicate 8 0) t (j + 1)).2 = dblock k1 (pxor (chTo 2 k1 (List.replicate 8 0) t j).2 (blkAt t 8 j)) false from by
        show pdo 2 k1 (pxor (blkAt t (psize 2) j) (chTo 2 k1 (List.replicate 8 0) t j).2) false = _
        rw [show psize 2 = 8 from rfl, pxor_comm _ _ (by rw [HBA.out, HXL.out]), show ∀ q, pdo 2 k1 q false = ptriple k1 q false from fun q => rfl, ptriple8 _ _ _ HK1.out])
      obtain ⟨xl, exl⟩ : ∃ l, (chTo 2 k1 (List.replicate 8 0) t j).2 = l := ⟨_, rfl⟩
      rw [exl] at HX HXL HNX
      have hdr : Below wr.heap.size wr wr.drew := below_drew _
      have hia : IntKind.i64.wrap ((i : Int) + 8) = ((i + 8 : Nat) : Int) := by rw [IntWalk.i64_in _ (by omega)]; omega
      have HKX := Lib.hid (fun wq (hq : Below wr.heap.size wr wq) => (HKW.out.below (below_more HB.out hq HB.out.size)).take (n := 8) (by rw [HKL.out]; decide))
      have HTX := Lib.hid (show ∀ wq, Below wr.heap.size wr wq → SlB wq (.slice (some ⟨gt, 0 + i, none⟩) (i + 8 - i) (ct - i)) (blkAt t 8 j) from fun wq hq => by
        have h1 := (HT2.out.below (below_more HB.out hq HB.out.size)).drop (k := i) (by rw [HTL.out]; omega)
        have h2 := h1.take (n := 8) (by rw [List.length_drop, HTL.out]; omega)
        rw [Nat.add_sub_cancel_left]
        unfold blkAt; rw [EI.out]; exact h2)
      clear hX hB exl hlt ei eT
      go_wp2
      refine wp_region_held (S := fun w9 => Below wr.heap.size wr w9) (by kernel_rfl) ?_
      show wpAnyH _ _ _ _ _ 11 _ _ wr.drew
      obtain ⟨u0, eu0⟩ : ∃ u0, wr.drew = u0 := ⟨_, rfl⟩
      rw [eu0] at hdr ⊢
      refine wpAnyH_take (i := 0) rfl (by kernel_rfl) (by kernel_rfl) (by kernel_rfl) (fun _ _ _ h => h) (yields_val (by kernel_rfl) (.slice (some ⟨gk, ok, none⟩) 16 c) (fun w => by kernel_rfl)) hdr ?_
      refine wpAnyH_take (i := 1) rfl (by kernel_rfl) (by kernel_rfl) (by kernel_rfl) (fun _ _ _ h => h) (yields_toB (by kernel_rfl) _ _ rfl gk ok 16 c 8 (by kernel_rfl) (by kernel_rfl) (by omega)) hdr ?_
      refine wpAnyH_take (i := 2) rfl (by kernel_rfl) (by kernel_rfl) (by kernel_rfl) (fun _ _ _ h => h) (yields_val (by kernel_rfl) (.slice (some ⟨gx, ox, none⟩) 8 cx) (fun w => by kernel_rfl)) hdr ?_
      refine wpAnyH_take (i := 3) rfl (by kernel_rfl) (by kernel_rfl) (by kernel_rfl) (fun _ _ _ h => h) (yields_val (by kernel_rfl) (.slice (some ⟨gt, 0, none⟩) T ct) (fun w => by kernel_rfl)) hdr ?_
      refine wpAnyH_take (i := 4) rfl (by kernel_rfl) (by kernel_rfl) (by kernel_rfl) (fun _ _ _ h => h) (yields_val (by kernel_rfl) (.int .i64 i) (fun w => by kernel_rfl)) hdr ?_
      refine wpAnyH_take (i := 5) rfl (by kernel_rfl) (by kernel_rfl) (by kernel_rfl) (fun _ _ _ h => h) (yields_val (by kernel_rfl) (.int .i64 i) (fun w => by kernel_rfl)) hdr ?_
      refine wpAnyH_take (i := 6) rfl (by kernel_rfl) (by kernel_rfl) (by kernel_rfl) (fun _ _ _ h => h) (yields_val (by kernel_rfl) (.int .i64 ((i + 8 : Nat) : Int)) (fun w => by rw [← hia]; kernel_rfl)) hdr ?_
      refine wpAnyH_take (i := 7) rfl (by kernel_rfl) (by kernel_rfl) (by kernel_rfl) (fun _ _ _ h => h) (yields_midB (by kernel_rfl) _ _ _ rfl gt 0 T ct i (i + 8) (by kernel_rfl) (by kernel_rfl) (by kernel_rfl) (by omega) (by omega) (by omega)) hdr ?_
      refine wpAnyH_all (rs := [8]) (by kernel_rfl) (by decide) ?_
      intro i8 hi8
      obtain rfl : i8 = 8 := by simpa using hi8
      refine wpOp_enterX rfl (by kernel_rfl) 24 #[.slice (some ⟨gx, ox, none⟩) 8 cx, .slice (some ⟨gt, 0 + i, none⟩) (i + 8 - i) (ct - i)] (fun v w9 => Own w9 u0.heap.size v (pxor xl (blkAt t 8 j)) ∧ Below u0.heap.size u0 w9) (by kernel_rfl) ((RXor_any _ _ xl (blkAt t 8 j) u0 (HX.out.below hdr) (HTX.out u0 hdr) (by rw [HXL.out, HBA.out]) (by rw [HXL.out]; decide)).mono fun e w9 ⟨v, q1, q2, q3⟩ => ⟨v, q1, q2, q3⟩) ?_
      rintro v8 w4 ⟨hO8, hL8⟩
      have hS8 : Below wr.heap.size wr w4 := below_more hdr hL8 hdr.size
      refine ⟨hS8, ?_⟩
      obtain ⟨A8, c8, e8, _⟩ := hO8.slB.formc (L := 8) (by rw [pxor_len, HXL.out])
      subst e8
      refine wpAnyH_all (rs := [9]) (by kernel_rfl) (by decide) ?_
      intro i9 hi9
      obtain rfl : i9 = 9 := by simpa using hi9
      have hk9 := HKX.out w4 hS8
      rw [HEK1.out] at hk9
      refine wpOp_enterX rfl (by kernel_rfl) 41 #[.slice (some ⟨gk, ok, none⟩) 8 c, .slice A8 8 c8, .bool false] (fun v w9 => Own w9 w4.heap.size v (dblock k1 (pxor xl (blkAt t 8 j)) false) ∧ Below w4.heap.size w4 w9) (by kernel_rfl) ((rBlock_false _ _ k1 (pxor xl (blkAt t 8 j)) w4 hk9 HK1.out hO8.slB (by rw [pxor_len, HXL.out])).mono fun e w9 ⟨v, q1, q2, q3⟩ => ⟨v, q1, q2, q3⟩) ?_
      rintro v9 w5 ⟨hO9, hL9⟩
      have hS9 : Below wr.heap.size wr w5 := below_more hS8 hL9 hS8.size
      refine ⟨hS9, ?_⟩
      rw [← HNX.out] at hO9
      have hl9 : (chTo 2 k1 (List.replicate 8 0) t (j + 1)).2.length = 8 := chTo_last 2 _ _ _ (j + 1) (by decide) rfl
      obtain ⟨g9, c9b, e9, _, _, _, _, _⟩ := hO9.form (by rw [hl9]; decide)
      rw [hl9] at e9
      subst e9
      refine wpAnyH_take (i := 10) rfl (by kernel_rfl) (by kernel_rfl) (by kernel_rfl) (fun _ _ _ h => h) (yields_val (by kernel_rfl) (.slice (some ⟨g9, 0, none⟩) 8 c9b) (fun w => by kernel_rfl)) hS9 ?_
      refine wpAnyH_done (by kernel_rfl) ?_ _
      simp only [Act.put, List.getElem_toArray, List.getElem_cons_succ, List.getElem_cons_zero, List.setIfInBounds_toArray, List.set_cons_succ, List.set_cons_zero]
      have HS9 := Lib.hid hS9
      have HO9 := Lib.hid hO9.slB
      clear hS9 hO9 hL9 hS8 hO8 hL8 hk9 hl9 hdr hia eu0
      go_wp2
      go_roundw
      case rel => exact ⟨j + 1, _, _, _, HLT.out, by have := EI.out; congr 1; omega, rfl, HO9.out, below_more HB.out HS9.out HB.out.size⟩
      case measure => have := EI.out; have := ET.out; have := HLT.out; simp [intOf]; omega
    · obtain rfl : j = m := by omega
      have hi1 : ¬ (i : Int) < (T : Int) := by omega
      obtain ⟨xl, exl⟩ : ∃ l, (chTo 2 k1 (List.replicate 8 0) t j).2 = l := ⟨_, rfl⟩
      have hrt : pretail key text = dblock k1 (dblock k2 xl true) false := by rw [HRT.out, ← exl]; rfl
      rw [exl] at HX HXL
      have HRT2 := Lib.hid hrt
      have hdr : Below wr.heap.size wr wr.drew := below_drew _
      have HKX := Lib.hid (fun wq (hq : Below wr.heap.size wr wq) => HKW.out.below (below_more HB.out hq HB.out.size))
      have hc8 : ¬ c = 8 := by omega
      clear hX hB exl ei eT hrt
      go_wp2
      refine wp_region_held (S := fun w9 => Below wr.heap.size wr w9) (by kernel_rfl) ?_
      show wpAnyH _ _ _ _ _ 8 _ _ wr.drew
      obtain ⟨u0, eu0⟩ : ∃ u0, wr.drew = u0 := ⟨_, rfl⟩
      rw [eu0] at hdr ⊢
      refine wpAnyH_take (i := 0) rfl (by kernel_rfl) (by kernel_rfl) (by kernel_rfl) (fun _ _ _ h => h) (yields_val (by kernel_rfl) (.slice (some ⟨gk, ok, none⟩) 16 c) (fun w => by kernel_rfl)) hdr ?_
      refine wpAnyH_take (i := 1) rfl (by kernel_rfl) (by kernel_rfl) (by kernel_rfl) (fun _ _ _ h => h) (yields_toB (by kernel_rfl) _ _ rfl gk ok 16 c 8 (by kernel_rfl) (by kernel_rfl) (by omega)) hdr ?_
      refine wpAnyH_take (i := 2) rfl (by kernel_rfl) (by kernel_rfl) (by kernel_rfl) (fun _ _ _ h => h) (yields_val (by kernel_rfl) (.slice (some ⟨gk, ok, none⟩) 16 c) (fun w => by kernel_rfl)) hdr ?_
      refine wpAnyH_take (i := 3) rfl (by kernel_rfl) (by kernel_rfl) (by kernel_rfl) (fun _ _ _ h => h) (yields_fromB (by kernel_rfl) _ _ rfl gk ok 16 c 8 (by kernel_rfl) (by kernel_rfl) (by decide) (by omega) hc8) hdr ?_
      refine wpAnyH_take (i := 4) rfl (by kernel_rfl) (by kernel_rfl) (by kernel_rfl) (fun _ _ _ h => h) (yields_val (by kernel_rfl) (.slice (some ⟨gx, ox, none⟩) 8 cx) (fun w => by kernel_rfl)) hdr ?_
      refine wpAnyH_all (rs := [5]) (by kernel_rfl) (by decide) ?_
      intro i5 hi5
      obtain rfl : i5 = 5 := by simpa using hi5
      have hk5 := (HKX.out u0 hdr).drop (k := 8) (by rw [HKL.out]; decide)
      rw [HEK2.out] at hk5
      refine wpOp_enterX rfl (by kernel_rfl) 41 #[.slice (some ⟨gk, ok + 8, none⟩) (16 - 8) (c - 8), .slice (some ⟨gx, ox, none⟩) 8 cx, .bool true] (fun v w9 => Own w9 u0.heap.size v (dblock k2 xl true) ∧ Below u0.heap.size u0 w9) (by kernel_rfl) ((rBlock_true _ _ k2 xl u0 hk5 HK2.out (HX.out.below hdr) HXL.out).mono fun e w9 ⟨v, q1, q2, q3⟩ => ⟨v, q1, q2, q3⟩) ?_
      rintro v8 w4 ⟨hO8, hL8⟩
      have hS8 : Below wr.heap.size wr w4 := below_more hdr hL8 hdr.size
      refine ⟨hS8, ?_⟩
      obtain ⟨A8, c8, e8, _⟩ := hO8.slB.formc (L := 8) (pbytes_len _)
      subst e8
      refine wpAnyH_all (rs := [6]) (by kernel_rfl) (by decide) ?_
      intro i6 hi6
      obtain rfl : i6 = 6 := by simpa using hi6
      have hk6 := (HKX.out w4 hS8).take (n := 8) (by rw [HKL.out]; decide)
      rw [HEK1.out] at hk6
      refine wpOp_enterX rfl (by kernel_rfl) 41 #[.slice (some ⟨gk, ok, none⟩) 8 c, .slice A8 8 c8, .bool false] (fun v w9 => Own w9 w4.heap.size v (dblock k1 (dblock k2 xl true) false) ∧ Below w4.heap.size w4 w9) (by kernel_rfl) ((rBlock_false _ _ k1 (dblock k2 xl true) w4 hk6 HK1.out hO8.slB (pbytes_len _)).mono fun e w9 ⟨v, q1, q2, q3⟩ => ⟨v, q1, q2, q3⟩) ?_
      rintro v9 w5 ⟨hO9, hL9⟩
      have hS9 : Below wr.heap.size wr w5 := below_more hS8 hL9 hS8.size
      refine ⟨hS9, ?_⟩
      rw [← HRT2.out] at hO9
      refine wpAnyH_take (i := 7) rfl (by kernel_rfl) (by kernel_rfl) (by kernel_rfl) (fun _ _ _ h => h) (yields_val (by kernel_rfl) v9 (fun w => by kernel_rfl)) hS9 ?_
      refine wpAnyH_done (by kernel_rfl) ?_ _
      simp only [Act.put, List.getElem_toArray, List.getElem_cons_succ, List.getElem_cons_zero, List.setIfInBounds_toArray, List.set_cons_succ, List.set_cons_zero]
      have z1 := HM2.out.size
      have z2 := HB.out.size
      have z3 := hS8.size
      have HO9 := Lib.hid (hO9.lower (show w.heap.size ≤ w4.heap.size by omega))
      have HS9 := Lib.hid (below_more (below_more HM2.out HB.out z1) hS9 (by omega))
      clear hS9 hO9 hL9 hS8 hO8 hL8 hk5 hk6 hdr eu0 z1 z2 z3
      go_wp2
      go_ret
      exact ⟨_, rfl, HO9.out, HS9.out⟩
end Go.Proofs.YtidgmokbkepcdaaDoor
set_option linter.unusedVariables false
set_option linter.unusedSimpArgs false
namespace Lk
theorem ptriple16 (k b : List UInt8) (back : Bool) (h : k.length = 16) : ptriple k b back = dblock (k.take 8) (dblock ((k.drop 8).take 8) (dblock (k.take 8) b back) (!back)) back := by
  have e0 : part8 (pparts k) 0 = k.take 8 := by unfold pparts part8; simp [h, List.take_append_of_le_length]
  have e8 : part8 (pparts k) 8 = (k.drop 8).take 8 := by unfold pparts part8; (simp [h, List.take_append_of_le_length, List.drop_append_of_le_length]; rw [List.take_of_length_le (by rw [List.length_drop]; omega)])
  have e16 : part8 (pparts k) 16 = k.take 8 := by
    unfold pparts part8
    rw [if_neg (by omega), if_pos h, show (16 : Nat) = k.length from h.symm, List.drop_left, List.take_take]; simp
  unfold ptriple
  rw [if_neg (by omega), e0, e8, e16]
  cases back <;> rfl
theorem ptriple24 (k b : List UInt8) (h : k.length = 24) : ptriple k b false = dblock (k.drop 16) (dblock ((k.drop 8).take 8) (dblock (k.take 8) b false) true) false ∧ ptriple k b true = dblock (k.take 8) (dblock ((k.drop 8).take 8) (dblock (k.drop 16) b true) false) true := by
  have e0 : part8 (pparts k) 0 = k.take 8 := by unfold pparts part8; simp [h]
  have e8 : part8 (pparts k) 8 = (k.drop 8).take 8 := by unfold pparts part8; simp [h]
  have e16 : part8 (pparts k) 16 = k.drop 16 := by
    unfold pparts part8
    rw [if_pos h, List.take_of_length_le (by rw [List.length_drop]; omega)]
  unfold ptriple
  rw [if_neg (by omega), if_neg (by omega), e0, e8, e16]
  exact ⟨rfl, rfl⟩
end Lk
namespace Go.Proofs.YtidgmokbkepcdaaDoor
open Go Go.RowKit Lk
set_option maxHeartbeats 3200000 in
set_option maxRecDepth 100000 in
theorem rTriple16_false (vk vb : Value) (key b : List UInt8) (w : World) (hk : SlB w vk key) (hkl : key.length = 16) (hb : SlB w vb b) (hbl : b.length = 8) :
    Calls Tryd.prog 25 #[vk, vb, .bool false] w fun e w' => ∃ v, e = .returned v ∧ Own w' w.heap.size v (ptriple key b false) ∧ Below w.heap.size w w' := by
  obtain ⟨N, hN⟩ : ∃ N, w.heap.size = N := ⟨_, rfl⟩
  have HN := Lib.hid hN
  have HK := Lib.hid hk
  have HB := Lib.hid hb
  obtain ⟨A, c, rfl, _, c1, c2, n4⟩ := hk
  obtain ⟨A9, c9, rfl⟩ := hb.form hbl
  rw [hkl] at HK c1 ⊢
  obtain ⟨gk, ok, rfl, _⟩ := n4 (by omega)
  have HKL := Lib.hid hkl
  have HBL := Lib.hid hbl
  clear n4 hb hbl
  have HRT := Lib.hid (ptriple16 key b false hkl)
  clear hkl
  have hM0 : Below N w w := Below.refl _ _
  have hs0 : N ≤ w.heap.size := by omega
  have K_0 := Lib.hid (HK.out)
  have B_0 := Lib.hid (HB.out)
  clear HK HB
  go_enter Tryd.func25, Tryd.ntmps25
  go_wp2_with fail
  refine (rBlock_any false _ _ (key.take 8) b w (K_0.out.take (n := 8) (by rw [HKL.out]; decide)) (by simp [HKL.out]) B_0.out HBL.out).mono ?_
  rintro e w1 ⟨v0, rfl, hO, hL⟩
  have hM1 : Below N w w1 := below_more hM0 hL hs0
  have hs1 : N ≤ w1.heap.size := Nat.le_trans hs0 (hL).size
  have K_1 := Lib.hid (K_0.out.below hL)
  clear K_0
  have B_1 := Lib.hid (B_0.out.below hL)
  clear B_0
  clear hM0 hs0
  obtain ⟨A0, d0, rfl, _⟩ := hO.slB.formc (dblock_len _ _ _)
  have X0_1 := Lib.hid (hO)
  clear hL hO
  go_wp2_with fail
  refine (rBlock_any true _ _ ((key.drop 8).take 8) (dblock (key.take 8) b false) w1 ((K_1.out.drop (k := 8) (by rw [HKL.out]; decide)).take (n := 8) (by rw [List.length_drop, HKL.out]; decide)) (by simp [HKL.out]) X0_1.out.slB (dblock_len _ _ _)).mono ?_
  rintro e w2 ⟨v1, rfl, hO, hL⟩
  have hM2 : Below N w w2 := below_more hM1 hL hs1
  have hs2 : N ≤ w2.heap.size := Nat.le_trans hs1 (hL).size
  have K_2 := Lib.hid (K_1.out.below hL)
  clear K_1
  have B_2 := Lib.hid (B_1.out.below hL)
  clear B_1
  have X0_2 := Lib.hid (X0_1.out.under hL)
  clear X0_1
  clear hM1 hs1
  obtain ⟨A1, d1, rfl, _⟩ := hO.slB.formc (dblock_len _ _ _)
  have X1_2 := Lib.hid (hO)
  clear hL hO
  have hs9 := hs2
  go_wp2_with fail
  refine (rBlock_any false _ _ (key.take 8) (dblock ((key.drop 8).take 8) (dblock (key.take 8) b false) true) w2 (K_2.out.take (n := 8) (by rw [HKL.out]; decide)) (by simp [HKL.out]) X1_2.out.slB (dblock_len _ _ _)).mono ?_
  rintro e w3 ⟨v2, rfl, hO, hL⟩
  have hM3 : Below N w w3 := below_more hM2 hL hs2
  have hs3 : N ≤ w3.heap.size := Nat.le_trans hs2 (hL).size
  have K_3 := Lib.hid (K_2.out.below hL)
  clear K_2
  have B_3 := Lib.hid (B_2.out.below hL)
  clear B_2
  have X0_3 := Lib.hid (X0_2.out.under hL)
  clear X0_2
  have X1_3 := Lib.hid (X1_2.out.under hL)
  clear X1_2
  clear hM2 hs2
  go_wp2_with fail
  go_ret
  exact ⟨_, rfl, by rw [HN.out, HRT.out]; exact hO.lower hs9, by rw [HN.out]; exact hM3⟩
set_option maxHeartbeats 3200000 in
set_option maxRecDepth 100000 in
theorem rTriple16_true (vk vb : Value) (key b : List UInt8) (w : World) (hk : SlB w vk key) (hkl : key.length = 16) (hb : SlB w vb b) (hbl : b.length = 8) :
    Calls Tryd.prog 25 #[vk, vb, .bool true] w fun e w' => ∃ v, e = .returned v ∧ Own w' w.heap.size v (ptriple key b true) ∧ Below w.heap.size w w' := by
  obtain ⟨N, hN⟩ : ∃ N, w.heap.size = N := ⟨_, rfl⟩
  have HN := Lib.hid hN
  have HK := Lib.hid hk
  have HB := Lib.hid hb
  obtain ⟨A, c, rfl, _, c1, c2, n4⟩ := hk
  obtain ⟨A9, c9, rfl⟩ := hb.form hbl
  rw [hkl] at HK c1 ⊢
  obtain ⟨gk, ok, rfl, _⟩ := n4 (by omega)
  have HKL := Lib.hid hkl
  have HBL := Lib.hid hbl
  clear n4 hb hbl
  have HRT := Lib.hid (ptriple16 key b true hkl)
  clear hkl
  have hM0 : Below N w w := Below.refl _ _
  have hs0 : N ≤ w.heap.size := by omega
  have K_0 := Lib.hid (HK.out)
  have B_0 := Lib.hid (HB.out)
  clear HK HB
  go_enter Tryd.func25, Tryd.ntmps25
  go_wp2_with fail
  refine (rBlock_any true _ _ (key.take 8) b w (K_0.out.take (n := 8) (by rw [HKL.out]; decide)) (by simp [HKL.out]) B_0.out HBL.out).mono ?_
  rintro e w1 ⟨v0, rfl, hO, hL⟩
  have hM1 : Below N w w1 := below_more hM0 hL hs0
  have hs1 : N ≤ w1.heap.size := Nat.le_trans hs0 (hL).size
  have K_1 := Lib.hid (K_0.out.below hL)
  clear K_0
  have B_1 := Lib.hid (B_0.out.below hL)
  clear B_0
  clear hM0 hs0
  obtain ⟨A0, d0, rfl, _⟩ := hO.slB.formc (dblock_len _ _ _)
  have X0_1 := Lib.hid (hO)
  clear hL hO
  go_wp2_with fail
  refine (rBlock_any false _ _ ((key.drop 8).take 8) (dblock (key.take 8) b true) w1 ((K_1.out.drop (k := 8) (by rw [HKL.out]; decide)).take (n := 8) (by rw [List.length_drop, HKL.out]; decide)) (by simp [HKL.out]) X0_1.out.slB (dblock_len _ _ _)).mono ?_
  rintro e w2 ⟨v1, rfl, hO, hL⟩
  have hM2 : Below N w w2 := below_more hM1 hL hs1
  have hs2 : N ≤ w2.heap.size := Nat.le_trans hs1 (hL).size
  have K_2 := Lib.hid (K_1.out.below hL)
  clear K_1
  have B_2 := Lib.hid (B_1.out.below hL)
  clear B_1
  have X0_2 := Lib.hid (X0_1.out.under hL)
  clear X0_1
  clear hM1 hs1
  obtain ⟨A1, d1, rfl, _⟩ := hO.slB.formc (dblock_len _ _ _)
  have X1_2 := Lib.hid (hO)
  clear hL hO
  have hs9 := hs2
  go_wp2_with fail
  refine (rBlock_any true _ _ (key.take 8) (dblock ((key.drop 8).take 8) (dblock (key.take 8) b true) false) w2 (K_2.out.take (n := 8) (by rw [HKL.out]; decide)) (by simp [HKL.out]) X1_2.out.slB (dblock_len _ _ _)).mono ?_
  rintro e w3 ⟨v2, rfl, hO, hL⟩
  have hM3 : Below N w w3 := below_more hM2 hL hs2
  have hs3 : N ≤ w3.heap.size := Nat.le_trans hs2 (hL).size
  have K_3 := Lib.hid (K_2.out.below hL)
  clear K_2
  have B_3 := Lib.hid (B_2.out.below hL)
  clear B_2
  have X0_3 := Lib.hid (X0_2.out.under hL)
  clear X0_2
  have X1_3 := Lib.hid (X1_2.out.under hL)
  clear X1_2
  clear hM2 hs2
  go_wp2_with fail
  go_ret
  exact ⟨_, rfl, by rw [HN.out, HRT.out]; exact hO.lower hs9, by rw [HN.out]; exact hM3⟩
set_option maxHeartbeats 3200000 in
set_option maxRecDepth 100000 in
theorem rTriple24_false (vk vb : Value) (key b : List UInt8) (w : World) (hk : SlB w vk key) (hkl : key.length = 24) (hb : SlB w vb b) (hbl : b.length = 8) :
    Calls Tryd.prog 25 #[vk, vb, .bool false] w fun e w' => ∃ v, e = .returned v ∧ Own w' w.heap.size v (ptriple key b false) ∧ Below w.heap.size w w' := by
  obtain ⟨N, hN⟩ : ∃ N, w.heap.size = N := ⟨_, rfl⟩
  have HN := Lib.hid hN
  have HK := Lib.hid hk
  have HB := Lib.hid hb
  obtain ⟨A, c, rfl, _, c1, c2, n4⟩ := hk
  obtain ⟨A9, c9, rfl⟩ := hb.form hbl
  rw [hkl] at HK c1 ⊢
  obtain ⟨gk, ok, rfl, _⟩ := n4 (by omega)
  have HKL := Lib.hid hkl
  have HBL := Lib.hid hbl
  clear n4 hb hbl
  have HRT := Lib.hid (ptriple24 key b hkl).1
  clear hkl
  have hM0 : Below N w w := Below.refl _ _
  have hs0 : N ≤ w.heap.size := by omega
  have K_0 := Lib.hid (HK.out)
  have B_0 := Lib.hid (HB.out)
  clear HK HB
  go_enter Tryd.func25, Tryd.ntmps25
  go_wp2_with fail
  refine (rBlock_any false _ _ (key.take 8) b w (K_0.out.take (n := 8) (by rw [HKL.out]; decide)) (by simp [HKL.out]) B_0.out HBL.out).mono ?_
  rintro e w1 ⟨v0, rfl, hO, hL⟩
  have hM1 : Below N w w1 := below_more hM0 hL hs0
  have hs1 : N ≤ w1.heap.size := Nat.le_trans hs0 (hL).size
  have K_1 := Lib.hid (K_0.out.below hL)
  clear K_0
  have B_1 := Lib.hid (B_0.out.below hL)
  clear B_0
  clear hM0 hs0
  obtain ⟨A0, d0, rfl, _⟩ := hO.slB.formc (dblock_len _ _ _)
  have X0_1 := Lib.hid (hO)
  clear hL hO
  go_wp2_with fail
  refine (rBlock_any true _ _ ((key.drop 8).take 8) (dblock (key.take 8) b false) w1 ((K_1.out.drop (k := 8) (by rw [HKL.out]; decide)).take (n := 8) (by rw [List.length_drop, HKL.out]; decide)) (by simp [HKL.out]) X0_1.out.slB (dblock_len _ _ _)).mono ?_
  rintro e w2 ⟨v1, rfl, hO, hL⟩
  have hM2 : Below N w w2 := below_more hM1 hL hs1
  have hs2 : N ≤ w2.heap.size := Nat.le_trans hs1 (hL).size
  have K_2 := Lib.hid (K_1.out.below hL)
  clear K_1
  have B_2 := Lib.hid (B_1.out.below hL)
  clear B_1
  have X0_2 := Lib.hid (X0_1.out.under hL)
  clear X0_1
  clear hM1 hs1
  obtain ⟨A1, d1, rfl, _⟩ := hO.slB.formc (dblock_len _ _ _)
  have X1_2 := Lib.hid (hO)
  clear hL hO
  have hs9 := hs2
  go_wp2_with fail
  refine (rBlock_any false _ _ (key.drop 16) (dblock ((key.drop 8).take 8) (dblock (key.take 8) b false) true) w2 (K_2.out.drop (k := 16) (by rw [HKL.out]; decide)) (by simp [HKL.out]) X1_2.out.slB (dblock_len _ _ _)).mono ?_
  rintro e w3 ⟨v2, rfl, hO, hL⟩
  have hM3 : Below N w w3 := below_more hM2 hL hs2
  have hs3 : N ≤ w3.heap.size := Nat.le_trans hs2 (hL).size
  have K_3 := Lib.hid (K_2.out.below hL)
  clear K_2
  have B_3 := Lib.hid (B_2.out.below hL)
  clear B_2
  have X0_3 := Lib.hid (X0_2.out.under hL)
  clear X0_2
  have X1_3 := Lib.hid (X1_2.out.under hL)
  clear X1_2
  clear hM2 hs2
  go_wp2_with fail
  go_ret
  exact ⟨_, rfl, by rw [HN.out, HRT.out]; exact hO.lower hs9, by rw [HN.out]; exact hM3⟩
set_option maxHeartbeats 3200000 in
set_option maxRecDepth 100000 in
theorem rTriple24_true (vk vb : Value) (key b : List UInt8) (w : World) (hk : SlB w vk key) (hkl : key.length = 24) (hb : SlB w vb b) (hbl : b.length = 8) :
    Calls Tryd.prog 25 #[vk, vb, .bool true] w fun e w' => ∃ v, e = .returned v ∧ Own w' w.heap.size v (ptriple key b true) ∧ Below w.heap.size w w' := by
  obtain ⟨N, hN⟩ : ∃ N, w.heap.size = N := ⟨_, rfl⟩
  have HN := Lib.hid hN
  have HK := Lib.hid hk
  have HB := Lib.hid hb
  obtain ⟨A, c, rfl, _, c1, c2, n4⟩ := hk
  obtain ⟨A9, c9, rfl⟩ := hb.form hbl
  rw [hkl] at HK c1 ⊢
  obtain ⟨gk, ok, rfl, _⟩ := n4 (by omega)
  have HKL := Lib.hid hkl
  have HBL := Lib.hid hbl
  clear n4 hb hbl
  have HRT := Lib.hid (ptriple24 key b hkl).2
  clear hkl
  have hM0 : Below N w w := Below.refl _ _
  have hs0 : N ≤ w.heap.size := by omega
  have K_0 := Lib.hid (HK.out)
  have B_0 := Lib.hid (HB.out)
  clear HK HB
  go_enter Tryd.func25, Tryd.ntmps25
  go_wp2_with fail
  refine (rBlock_any true _ _ (key.drop 16) b w (K_0.out.drop (k := 16) (by rw [HKL.out]; decide)) (by simp [HKL.out]) B_0.out HBL.out).mono ?_
  rintro e w1 ⟨v0, rfl, hO, hL⟩
  have hM1 : Below N w w1 := below_more hM0 hL hs0
  have hs1 : N ≤ w1.heap.size := Nat.le_trans hs0 (hL).size
  have K_1 := Lib.hid (K_0.out.below hL)
  clear K_0
  have B_1 := Lib.hid (B_0.out.below hL)
  clear B_0
  clear hM0 hs0
  obtain ⟨A0, d0, rfl, _⟩ := hO.slB.formc (dblock_len _ _ _)
  have X0_1 := Lib.hid (hO)
  clear hL hO
  go_wp2_with fail
  refine (rBlock_any false _ _ ((key.drop 8).take 8) (dblock (key.drop 16) b true) w1 ((K_1.out.drop (k := 8) (by rw [HKL.out]; decide)).take (n := 8) (by rw [List.length_drop, HKL.out]; decide)) (by simp [HKL.out]) X0_1.out.slB (dblock_len _ _ _)).mono ?_
  rintro e w2 ⟨v1, rfl, hO, hL⟩
  have hM2 : Below N w w2 := below_more hM1 hL hs1
  have hs2 : N ≤ w2.heap.size := Nat.le_trans hs1 (hL).size
  have K_2 := Lib.hid (K_1.out.below hL)
  clear K_1
  have B_2 := Lib.hid (B_1.out.below hL)
  clear B_1
  have X0_2 := Lib.hid (X0_1.out.under hL)
  clear X0_1
  clear hM1 hs1
  obtain ⟨A1, d1, rfl, _⟩ := hO.slB.formc (dblock_len _ _ _)
  have X1_2 := Lib.hid (hO)
  clear hL hO
  have hs9 := hs2
  go_wp2_with fail
  refine (rBlock_any true _ _ (key.take 8) (dblock ((key.drop 8).take 8) (dblock (key.drop 16) b true) false) w2 (K_2.out.take (n := 8) (by rw [HKL.out]; decide)) (by simp [HKL.out]) X1_2.out.slB (dblock_len _ _ _)).mono ?_
  rintro e w3 ⟨v2, rfl, hO, hL⟩
  have hM3 : Below N w w3 := below_more hM2 hL hs2
  have hs3 : N ≤ w3.heap.size := Nat.le_trans hs2 (hL).size
  have K_3 := Lib.hid (K_2.out.below hL)
  clear K_2
  have B_3 := Lib.hid (B_2.out.below hL)
  clear B_2
  have X0_3 := Lib.hid (X0_2.out.under hL)
  clear X0_2
  have X1_3 := Lib.hid (X1_2.out.under hL)
  clear X1_2
  clear hM2 hs2
  go_wp2_with fail
  go_ret
  exact ⟨_, rfl, by rw [HN.out, HRT.out]; exact hO.lower hs9, by rw [HN.out]; exact hM3⟩
theorem rTriple_any (back : Bool) (vk vb : Value) (key b : List UInt8) (w : World) (hk : SlB w vk key) (hkl : key.length = 16 ∨ key.length = 24) (hb : SlB w vb b) (hbl : b.length = 8) :
    Calls Tryd.prog 25 #[vk, vb, .bool back] w fun e w' => ∃ v, e = .returned v ∧ Own w' w.heap.size v (ptriple key b back) ∧ Below w.heap.size w w' := by
  rcases hkl with h | h <;> cases back
  · exact rTriple16_false vk vb key b w hk h hb hbl
  · exact rTriple16_true vk vb key b w hk h hb hbl
  · exact rTriple24_false vk vb key b w hk h hb hbl
  · exact rTriple24_true vk vb key b w hk h hb hbl
end Go.Proofs.YtidgmokbkepcdaaDoor
set_option linter.unusedVariables false
set_option linter.unusedSimpArgs false
namespace Lk
open Go Go.RowKit
theorem turn2_at (c a : List UInt8) (i : Nat) (hc : c.length = 8) (hi : i < 8) : g8 (turn2 c a) i = if i = 0 then g8 c 0 ^^^ g8 a 0 else if i = 1 then g8 c 1 ^^^ g8 a 1 else g8 c i := by
  unfold turn2
  have h0 : (0 : Nat) < c.length := by omega
  have h1 : (1 : Nat) < c.length := by omega
  by_cases e0 : i = 0
  · subst e0; simp [g8, h0]
  · by_cases e1 : i = 1
    · subst e1; simp [g8, h1]
    · rw [if_neg e0, if_neg e1]
      unfold g8
      rw [List.getD_eq_getElem?_getD, List.getElem?_set_ne (Ne.symm e1), List.getElem?_set_ne (Ne.symm e0), ← List.getD_eq_getElem?_getD]
theorem xor_left (a b c : UInt8) : c ^^^ a = c ^^^ b ↔ a = b := by rw [UInt8.xor_comm c a, UInt8.xor_comm c b]; exact xor_cancel a b c
theorem turn2_ans (c x y : List UInt8) (hc : c.length = 8) (hx : x.length = 2) (hy : y.length = 2) : turn2 c x = turn2 c y ↔ x = y := by
  constructor
  · intro h
    refine same_ext (by omega) fun i hi => ?_
    have h0 := congrArg (fun l => g8 l 0) h
    have h1 := congrArg (fun l => g8 l 1) h
    simp only [turn2_at c x 0 hc (by decide), turn2_at c y 0 hc (by decide), turn2_at c x 1 hc (by decide), turn2_at c y 1 hc (by decide), if_true, if_neg (show ¬ (1 : Nat) = 0 by decide)] at h0 h1
    rcases (show i = 0 ∨ i = 1 by omega) with rfl | rfl
    · exact (xor_left _ _ _).1 h0
    · exact (xor_left _ _ _).1 h1
  · intro h; rw [h]
theorem turn2_code (a b x : List UInt8) (ha : a.length = 8) (hb : b.length = 8) : turn2 a x = turn2 b x ↔ a = b := by
  constructor
  · intro h
    refine same_ext (by omega) fun i hi => ?_
    have h0 := congrArg (fun l => g8 l i) h
    simp only [turn2_at a x i ha (by omega), turn2_at b x i hb (by omega)] at h0
    by_cases e0 : i = 0
    · rw [if_pos e0, if_pos e0] at h0; rw [e0]; exact (xor_cancel _ _ _).1 h0
    · rw [if_neg e0, if_neg e0] at h0
      by_cases e1 : i = 1
      · rw [if_pos e1, if_pos e1] at h0; rw [e1]; exact (xor_cancel _ _ _).1 h0
      · rw [if_neg e1, if_neg e1] at h0; exact h0
  · intro h; rw [h]
theorem pone_ans (k c x y : List UInt8) (hc : c.length = 8) (hx : x.length = 2) (hy : y.length = 2) : (pone k c x == pone k c y) = (x == y) := by
  rw [Bool.eq_iff_iff, beq_iff_eq, beq_iff_eq]
  unfold pone
  rw [ptriple_inj _ _ _ _ (by rw [turn2_len, hc]) (by rw [turn2_len, hc]), turn2_ans c x y hc hx hy]
theorem pone_code (k a b x : List UInt8) (ha : a.length = 8) (hb : b.length = 8) : (pone k a x == pone k b x) = (a == b) := by
  rw [Bool.eq_iff_iff, beq_iff_eq, beq_iff_eq]
  unfold pone
  rw [ptriple_inj _ _ _ _ (by rw [turn2_len, ha]) (by rw [turn2_len, hb]), turn2_code a b x ha hb]
theorem Bs_two (l : List UInt8) (h : l.length = 2) : #[Value.int .u8 (bv (g8 l 0)), Value.int .u8 (bv (g8 l 1))] = Bs l := by
  match l, h with
  | [a, b], _ => rfl
end Lk
set_option linter.unusedVariables false
set_option linter.unusedSimpArgs false
namespace Lk
open Go Go.RowKit
section
variable {P : Program} {ops : Array Oper} {o : Oper} {a : Act} {w : World} {Q : Exit → Act → World → Prop} {K : Act → World → Prop} {i : Nat}
theorem wpOp_appendE (hi : ops[i]? = some o) (hw : Region.wanted o (yielded ops a.tmps) = true) (hu : P.underlying slt = some (.slice u8t)) (hinfo : (P.info? u8t).map (fun i => (i.zero, i.size, i.bytes)) = some (some (.int .u8 0), 1, 1)) (s x : Operand)
    (ho : o.op = .call { callee := .builtin .append, args := #[s, x], argTypes := #[slt, slt] }) (base : Nat) (v : Value) (l : List UInt8) (hs : a.eval s = v) (hown : Own w base v l)
    (v2 : Value) (m : List UInt8) (hx : a.eval x = v2) (hm : SlB w v2 m) (hlen : l.length + m.length ≤ 140737488355328) (hbase : base ≤ w.heap.size)
    (h : ∀ v' w', Own w' base v' (l ++ m) → w.grownBy w' v.ownBlock → K (a.put o.dst v') w') : wpOp P ops Q i K a w := by
  have hm' := hm
  obtain ⟨A, c, rfl, n1, n2, n3, n4⟩ := hm'
  cases A with
  | none =>
    obtain ⟨ti, hti, hz, h1, h2⟩ := info_parts hinfo
    obtain rfl := n1 rfl
    have hm0 : m = [] := List.eq_nil_of_length_eq_zero (by omega)
    subst hm0
    rw [List.append_nil] at h
    have hrun := run_append_owned_none (P := P) (w := w) base slt o.type u8t ti 1 hu hti v l.length (Bl l) hown
    refine wpOp_run hi hw v w ?_ (h v w hown (World.grownBy.refl _ _))
    simp [execOp, ho, resolve, invoke, builtin, hs, hx, hrun]
  | some ad => exact wpOp_append hi hw hu hinfo s x ho base v l hs hown ad _ c m hx hm hlen hbase h
end
theorem Bs_four (l : List UInt8) (h : l.length = 4) : #[Value.int .u8 (bv (g8 l 0)), Value.int .u8 (bv (g8 l 1)), Value.int .u8 (bv (g8 l 2)), Value.int .u8 (bv (g8 l 3))] = Bs l := by
  match l, h with
  | [a, b, c, d], _ => rfl
end Lk
namespace Go.Proofs.YtidgmokbkepcdaaDoor
open Go.RowKit Lk
set_option maxRecDepth 100000 in
theorem One_b1 (ar : Array Value) (vk vc : Value) (key code ans : List UInt8) (w : World) (har : ar = Bs ans) (hal : ans.length = 2) (hk : SlB w vk key) (hc : SlB w vc code) (hl : key.length ≤ 100) (hl2 : code.length ≤ 100) (h : key.length ≠ 16) :
    Calls Tryd.prog 22 #[vk, vc, .agg ar] w fun e w' => e = .returned (.tuple #[.slice none 0 0, .iface 66 (.int .i64 2)]) ∧ Below w.heap.size w w' := by
  subst har
  obtain ⟨A, c, rfl, _⟩ := hk
  obtain ⟨B, d, rfl, _⟩ := hc
  obtain ⟨K, eK⟩ : ∃ K, key.length = K := ⟨_, rfl⟩
  obtain ⟨C, eC⟩ : ∃ C, code.length = C := ⟨_, rfl⟩
  rw [eK] at h
  have f1 : ((K : Int) != 16) = true := by simp; omega
  clear h
  rw [eK] at hl ⊢
  rw [eC] at hl2 ⊢
  clear eK eC hal
  go_enter Tryd.func22, Tryd.ntmps22
  go_wp2_with ((with_reducible show wpList _ _ _ _ _ w); refine box_blk (w := w) rfl 55 _ rfl ans rfl ?_; intro u0 hA0 hG0 hz0)
  go_ret2
  exact ⟨rfl, below_none (Below.refl _ _) (Nat.le_refl _) hG0⟩
set_option maxRecDepth 100000 in
theorem One_b2 (ar : Array Value) (vk vc : Value) (key code ans : List UInt8) (w : World) (har : ar = Bs ans) (hal : ans.length = 2) (hk : SlB w vk key) (hc : SlB w vc code) (hl : key.length ≤ 100) (hl2 : code.length ≤ 100) (h0 : key.length = 16) (h : code.length ≠ 8) :
    Calls Tryd.prog 22 #[vk, vc, .agg ar] w fun e w' => e = .returned (.tuple #[.slice none 0 0, .iface 66 (.int .i64 2)]) ∧ Below w.heap.size w w' := by
  subst har
  obtain ⟨A, c, rfl, _⟩ := hk
  obtain ⟨B, d, rfl, _⟩ := hc
  obtain ⟨K, eK⟩ : ∃ K, key.length = K := ⟨_, rfl⟩
  obtain ⟨C, eC⟩ : ∃ C, code.length = C := ⟨_, rfl⟩
  rw [eK] at h0
  rw [eC] at h
  subst h0
  have f1 : ((C : Int) != 8) = true := by simp; omega
  clear h
  rw [eK] at hl ⊢
  rw [eC] at hl2 ⊢
  clear eK eC hal
  go_enter Tryd.func22, Tryd.ntmps22
  go_wp2_with ((with_reducible show wpList _ _ _ _ _ w); refine box_blk (w := w) rfl 55 _ rfl ans rfl ?_; intro u0 hA0 hG0 hz0)
  go_ret2
  exact ⟨rfl, below_none (Below.refl _ _) (Nat.le_refl _) hG0⟩
set_option maxRecDepth 100000 in
theorem Two_b1 (ar : Array Value) (vk vc vm : Value) (key code ans more : List UInt8) (w : World) (har : ar = Bs ans) (hal : ans.length = 4) (hk : SlB w vk key) (hc : SlB w vc code) (hm : SlB w vm more) (hl : key.length ≤ 100) (hl2 : code.length ≤ 100) (hl3 : more.length ≤ 100) (h : key.length ≠ 16) :
    Calls Tryd.prog 23 #[vk, vc, .agg ar, vm] w fun e w' => e = .returned (.tuple #[.slice none 0 0, .iface 66 (.int .i64 2)]) ∧ Below w.heap.size w w' := by
  subst har
  obtain ⟨A, c, rfl, _⟩ := hk
  obtain ⟨B, d, rfl, _⟩ := hc
  obtain ⟨D, e9, rfl, _⟩ := hm
  obtain ⟨K, eK⟩ : ∃ K, key.length = K := ⟨_, rfl⟩
  obtain ⟨C, eC⟩ : ∃ C, code.length = C := ⟨_, rfl⟩
  obtain ⟨M, eM⟩ : ∃ M, more.length = M := ⟨_, rfl⟩
  rw [eK] at h
  have f1 : ((K : Int) != 16) = true := by simp; omega
  clear h
  rw [eK] at hl ⊢
  rw [eC] at hl2 ⊢
  rw [eM] at hl3 ⊢
  clear eK eC hal eM
  go_enter Tryd.func23, Tryd.ntmps23
  go_wp2_with ((with_reducible show wpList _ _ _ _ _ w); refine box_blk (w := w) rfl 56 _ rfl ans rfl ?_; intro u0 hA0 hG0 hz0)
  go_ret2
  exact ⟨rfl, below_none (Below.refl _ _) (Nat.le_refl _) hG0⟩
set_option maxRecDepth 100000 in
theorem Two_b2 (ar : Array Value) (vk vc vm : Value) (key code ans more : List UInt8) (w : World) (har : ar = Bs ans) (hal : ans.length = 4) (hk : SlB w vk key) (hc : SlB w vc code) (hm : SlB w vm more) (hl : key.length ≤ 100) (hl2 : code.length ≤ 100) (hl3 : more.length ≤ 100) (h0 : key.length = 16) (h : code.length ≠ 8) :
    Calls Tryd.prog 23 #[vk, vc, .agg ar, vm] w fun e w' => e = .returned (.tuple #[.slice none 0 0, .iface 66 (.int .i64 2)]) ∧ Below w.heap.size w w' := by
  subst har
  obtain ⟨A, c, rfl, _⟩ := hk
  obtain ⟨B, d, rfl, _⟩ := hc
  obtain ⟨D, e9, rfl, _⟩ := hm
  obtain ⟨K, eK⟩ : ∃ K, key.length = K := ⟨_, rfl⟩
  obtain ⟨C, eC⟩ : ∃ C, code.length = C := ⟨_, rfl⟩
  obtain ⟨M, eM⟩ : ∃ M, more.length = M := ⟨_, rfl⟩
  rw [eK] at h0
  rw [eC] at h
  subst h0
  have f1 : ((C : Int) != 8) = true := by simp; omega
  clear h
  rw [eK] at hl ⊢
  rw [eC] at hl2 ⊢
  rw [eM] at hl3 ⊢
  clear eK eC hal eM
  go_enter Tryd.func23, Tryd.ntmps23
  go_wp2_with ((with_reducible show wpList _ _ _ _ _ w); refine box_blk (w := w) rfl 56 _ rfl ans rfl ?_; intro u0 hA0 hG0 hz0)
  go_ret2
  exact ⟨rfl, below_none (Below.refl _ _) (Nat.le_refl _) hG0⟩
set_option maxRecDepth 100000 in
theorem Two_b3 (ar : Array Value) (vk vc vm : Value) (key code ans more : List UInt8) (w : World) (har : ar = Bs ans) (hal : ans.length = 4) (hk : SlB w vk key) (hc : SlB w vc code) (hm : SlB w vm more) (hl : key.length ≤ 100) (hl2 : code.length ≤ 100) (hl3 : more.length ≤ 100) (h0 : key.length = 16) (h1 : code.length = 8) (h : 8 < more.length) :
    Calls Tryd.prog 23 #[vk, vc, .agg ar, vm] w fun e w' => e = .returned (.tuple #[.slice none 0 0, .iface 66 (.int .i64 2)]) ∧ Below w.heap.size w w' := by
  subst har
  obtain ⟨A, c, rfl, _⟩ := hk
  obtain ⟨B, d, rfl, _⟩ := hc
  obtain ⟨D, e9, rfl, _⟩ := hm
  obtain ⟨K, eK⟩ : ∃ K, key.length = K := ⟨_, rfl⟩
  obtain ⟨C, eC⟩ : ∃ C, code.length = C := ⟨_, rfl⟩
  obtain ⟨M, eM⟩ : ∃ M, more.length = M := ⟨_, rfl⟩
  rw [eK] at h0
  rw [eC] at h1
  rw [eM] at h
  subst h0 h1
  have f1 : (8 : Int) < (M : Int) := by omega
  clear h
  rw [eK] at hl ⊢
  rw [eC] at hl2 ⊢
  rw [eM] at hl3 ⊢
  clear eK eC hal eM
  go_enter Tryd.func23, Tryd.ntmps23
  go_wp2_with ((with_reducible show wpList _ _ _ _ _ w); refine box_blk (w := w) rfl 56 _ rfl ans rfl ?_; intro u0 hA0 hG0 hz0)
  go_ret2
  exact ⟨rfl, below_none (Below.refl _ _) (Nat.le_refl _) hG0⟩
set_option maxHeartbeats 6400000 in
set_option maxRecDepth 100000 in
theorem AA_fk (vk : Value) (key : List UInt8) (vc : Value) (code : List UInt8) (ans st : List UInt8) (vm : Value) (more : List UInt8) (w : World) (hE : Et w) (hk : SlB w vk key) (hc : SlB w vc code) (hal : ans.length = 2) (hsl : st.length = 4) (hm : SlB w vm more) (h1 : ¬ key.length ≤ 100) : Calls Tryd.prog 9 #[vk, vc, .agg (Bs ans), .agg (Bs st), vm] w fun e w' => e = .returned (.bool true) ∧ Below w.heap.size w w' := by
  obtain ⟨N, hN⟩ : ∃ N, w.heap.size = N := ⟨_, rfl⟩
  have HN := Lib.hid hN
  have HK := Lib.hid hk
  have HC := Lib.hid hc
  have HM := Lib.hid hm
  have HAL := Lib.hid hal
  have HSL := Lib.hid hsl
  obtain ⟨K, eK⟩ : ∃ K, key.length = K := ⟨_, rfl⟩
  obtain ⟨L, eL⟩ : ∃ L, code.length = L := ⟨_, rfl⟩
  obtain ⟨M, eM⟩ : ∃ M, more.length = M := ⟨_, rfl⟩
  obtain ⟨A, c, rfl, _, p1, p2, _⟩ := hk
  obtain ⟨B, d, rfl, _, q1, q2, _⟩ := hc
  obtain ⟨C, e9, rfl, _, r1, r2, _⟩ := hm
  have EK := Lib.hid eK
  have EL := Lib.hid eL
  have EM := Lib.hid eM
  rw [eK] at p1 HK
  rw [eL] at q1 HC
  rw [eM] at r1 HM
  rw [eK, eL, eM]
  rw [eK] at h1
  clear eK eL eM
  have hM0 : Below N w w := Below.refl _ _
  have hs0 : N ≤ w.heap.size := by omega
  have E_0 := Lib.hid (hE)
  have K_0 := Lib.hid (HK.out)
  have C_0 := Lib.hid (HC.out)
  have M_0 := Lib.hid (HM.out)
  clear hE HK HC HM hal hsl
  go_enter Tryd.func9, Tryd.ntmps9
  go_wp2_with (first | ((with_reducible show wpList _ _ _ _ _ w); refine box_blk (w := w) rfl 55 _ rfl ans rfl ?_; intro u0 hA0 hG0 hz0; rw [hN] at hA0 hz0 ⊢) | ((with_reducible show wpList _ _ _ _ _ u0); refine box_blk (w := u0) rfl 56 _ rfl st rfl ?_; intro u1 hA1 hG1 hz1; rw [hz0] at hA1 hz1 ⊢))
  have hL : Below w.heap.size w u1 := below_none (below_none (Below.refl _ _) (Nat.le_refl _) hG0) (by omega) hG1
  have zx := (hA0.old hG1 (by simp))
  have hM1 : Below N w u1 := below_more hM0 hL hs0
  have hs1 : N ≤ u1.heap.size := Nat.le_trans hs0 (hL).size
  have E_1 := Lib.hid (E_0.out.below hL)
  clear E_0
  have K_1 := Lib.hid (K_0.out.below hL)
  clear K_0
  have C_1 := Lib.hid (C_0.out.below hL)
  clear C_0
  have M_1 := Lib.hid (M_0.out.below hL)
  clear M_0
  clear hM0 hs0
  have X_1 := Lib.hid (zx)
  have Y_1 := Lib.hid (hA1)
  have HU := Lib.hid (show N + 2 ≤ u1.heap.size by omega)
  have MB_1 := Lib.hid (Below.refl u1.heap.size u1)
  clear hL zx hA0 hA1 hG0 hG1 hz0 hz1
  go_wp2_with fail
  refine (awake19 u1).mono ?_
  rintro e w2 ⟨rfl, hL⟩
  have hM2 : Below N w w2 := below_more hM1 hL hs1
  have hs2 : N ≤ w2.heap.size := Nat.le_trans hs1 (hL).size
  have E_2 := Lib.hid (E_1.out.below hL)
  clear E_1
  have K_2 := Lib.hid (K_1.out.below hL)
  clear K_1
  have C_2 := Lib.hid (C_1.out.below hL)
  clear C_1
  have M_2 := Lib.hid (M_1.out.below hL)
  clear M_1
  have X_2 := Lib.hid (X_1.out.under hL)
  clear X_1
  have Y_2 := Lib.hid (Y_1.out.under hL)
  clear Y_1
  have MB_2 := Lib.hid (below_more MB_1.out hL MB_1.out.size)
  clear MB_1
  clear hM1 hs1
  clear hL
  go_wp2_with fail
  refine (awake19 w2).mono ?_
  rintro e w3 ⟨rfl, hL⟩
  have hM3 : Below N w w3 := below_more hM2 hL hs2
  have hs3 : N ≤ w3.heap.size := Nat.le_trans hs2 (hL).size
  have E_3 := Lib.hid (E_2.out.below hL)
  clear E_2
  have K_3 := Lib.hid (K_2.out.below hL)
  clear K_2
  have C_3 := Lib.hid (C_2.out.below hL)
  clear C_2
  have M_3 := Lib.hid (M_2.out.below hL)
  clear M_2
  have X_3 := Lib.hid (X_2.out.under hL)
  clear X_2
  have Y_3 := Lib.hid (Y_2.out.under hL)
  clear Y_2
  have MB_3 := Lib.hid (below_more MB_2.out hL MB_2.out.size)
  clear MB_2
  clear hM2 hs2
  clear hL
  go_wp2_with fail
  go_ret
  exact ⟨rfl, by rw [HN.out]; exact hM3⟩
set_option maxHeartbeats 6400000 in
set_option maxRecDepth 100000 in
theorem AA_fc (vk : Value) (key : List UInt8) (vc : Value) (code : List UInt8) (ans st : List UInt8) (vm : Value) (more : List UInt8) (w : World) (hE : Et w) (hk : SlB w vk key) (hc : SlB w vc code) (hal : ans.length = 2) (hsl : st.length = 4) (hm : SlB w vm more) (h1 : key.length ≤ 100) (h2 : ¬ code.length ≤ 100) : Calls Tryd.prog 9 #[vk, vc, .agg (Bs ans), .agg (Bs st), vm] w fun e w' => e = .returned (.bool true) ∧ Below w.heap.size w w' := by
  obtain ⟨N, hN⟩ : ∃ N, w.heap.size = N := ⟨_, rfl⟩
  have HN := Lib.hid hN
  have HK := Lib.hid hk
  have HC := Lib.hid hc
  have HM := Lib.hid hm
  have HAL := Lib.hid hal
  have HSL := Lib.hid hsl
  obtain ⟨K, eK⟩ : ∃ K, key.length = K := ⟨_, rfl⟩
  obtain ⟨L, eL⟩ : ∃ L, code.length = L := ⟨_, rfl⟩
  obtain ⟨M, eM⟩ : ∃ M, more.length = M := ⟨_, rfl⟩
  obtain ⟨A, c, rfl, _, p1, p2, _⟩ := hk
  obtain ⟨B, d, rfl, _, q1, q2, _⟩ := hc
  obtain ⟨C, e9, rfl, _, r1, r2, _⟩ := hm
  have EK := Lib.hid eK
  have EL := Lib.hid eL
  have EM := Lib.hid eM
  rw [eK] at p1 HK
  rw [eL] at q1 HC
  rw [eM] at r1 HM
  rw [eK, eL, eM]
  rw [eK] at h1
  rw [eL] at h2
  clear eK eL eM
  have hM0 : Below N w w := Below.refl _ _
  have hs0 : N ≤ w.heap.size := by omega
  have E_0 := Lib.hid (hE)
  have K_0 := Lib.hid (HK.out)
  have C_0 := Lib.hid (HC.out)
  have M_0 := Lib.hid (HM.out)
  clear hE HK HC HM hal hsl
  go_enter Tryd.func9, Tryd.ntmps9
  go_wp2_with (first | ((with_reducible show wpList _ _ _ _ _ w); refine box_blk (w := w) rfl 55 _ rfl ans rfl ?_; intro u0 hA0 hG0 hz0; rw [hN] at hA0 hz0 ⊢) | ((with_reducible show wpList _ _ _ _ _ u0); refine box_blk (w := u0) rfl 56 _ rfl st rfl ?_; intro u1 hA1 hG1 hz1; rw [hz0] at hA1 hz1 ⊢))
  have hL : Below w.heap.size w u1 := below_none (below_none (Below.refl _ _) (Nat.le_refl _) hG0) (by omega) hG1
  have zx := (hA0.old hG1 (by simp))
  have hM1 : Below N w u1 := below_more hM0 hL hs0
  have hs1 : N ≤ u1.heap.size := Nat.le_trans hs0 (hL).size
  have E_1 := Lib.hid (E_0.out.below hL)
  clear E_0
  have K_1 := Lib.hid (K_0.out.below hL)
  clear K_0
  have C_1 := Lib.hid (C_0.out.below hL)
  clear C_0
  have M_1 := Lib.hid (M_0.out.below hL)
  clear M_0
  clear hM0 hs0
  have X_1 := Lib.hid (zx)
  have Y_1 := Lib.hid (hA1)
  have HU := Lib.hid (show N + 2 ≤ u1.heap.size by omega)
  have MB_1 := Lib.hid (Below.refl u1.heap.size u1)
  clear hL zx hA0 hA1 hG0 hG1 hz0 hz1
  go_wp2_with fail
  refine (awake19 u1).mono ?_
  rintro e w2 ⟨rfl, hL⟩
  have hM2 : Below N w w2 := below_more hM1 hL hs1
  have hs2 : N ≤ w2.heap.size := Nat.le_trans hs1 (hL).size
  have E_2 := Lib.hid (E_1.out.below hL)
  clear E_1
  have K_2 := Lib.hid (K_1.out.below hL)
  clear K_1
  have C_2 := Lib.hid (C_1.out.below hL)
  clear C_1
  have M_2 := Lib.hid (M_1.out.below hL)
  clear M_1
  have X_2 := Lib.hid (X_1.out.under hL)
  clear X_1
  have Y_2 := Lib.hid (Y_1.out.under hL)
  clear Y_1
  have MB_2 := Lib.hid (below_more MB_1.out hL MB_1.out.size)
  clear MB_1
  clear hM1 hs1
  clear hL
  go_wp2_with fail
  refine (awake19 w2).mono ?_
  rintro e w3 ⟨rfl, hL⟩
  have hM3 : Below N w w3 := below_more hM2 hL hs2
  have hs3 : N ≤ w3.heap.size := Nat.le_trans hs2 (hL).size
  have E_3 := Lib.hid (E_2.out.below hL)
  clear E_2
  have K_3 := Lib.hid (K_2.out.below hL)
  clear K_2
  have C_3 := Lib.hid (C_2.out.below hL)
  clear C_2
  have M_3 := Lib.hid (M_2.out.below hL)
  clear M_2
  have X_3 := Lib.hid (X_2.out.under hL)
  clear X_2
  have Y_3 := Lib.hid (Y_2.out.under hL)
  clear Y_2
  have MB_3 := Lib.hid (below_more MB_2.out hL MB_2.out.size)
  clear MB_2
  clear hM2 hs2
  clear hL
  go_wp2_with fail
  go_ret
  exact ⟨rfl, by rw [HN.out]; exact hM3⟩
set_option maxHeartbeats 6400000 in
set_option maxRecDepth 100000 in
theorem AA_fm (vk : Value) (key : List UInt8) (vc : Value) (code : List UInt8) (ans st : List UInt8) (vm : Value) (more : List UInt8) (w : World) (hE : Et w) (hk : SlB w vk key) (hc : SlB w vc code) (hal : ans.length = 2) (hsl : st.length = 4) (hm : SlB w vm more) (h1 : key.length ≤ 100) (h2 : code.length ≤ 100) (h3 : ¬ more.length ≤ 100) : Calls Tryd.prog 9 #[vk, vc, .agg (Bs ans), .agg (Bs st), vm] w fun e w' => e = .returned (.bool true) ∧ Below w.heap.size w w' := by
  obtain ⟨N, hN⟩ : ∃ N, w.heap.size = N := ⟨_, rfl⟩
  have HN := Lib.hid hN
  have HK := Lib.hid hk
  have HC := Lib.hid hc
  have HM := Lib.hid hm
  have HAL := Lib.hid hal
  have HSL := Lib.hid hsl
  obtain ⟨K, eK⟩ : ∃ K, key.length = K := ⟨_, rfl⟩
  obtain ⟨L, eL⟩ : ∃ L, code.length = L := ⟨_, rfl⟩
  obtain ⟨M, eM⟩ : ∃ M, more.length = M := ⟨_, rfl⟩
  obtain ⟨A, c, rfl, _, p1, p2, _⟩ := hk
  obtain ⟨B, d, rfl, _, q1, q2, _⟩ := hc
  obtain ⟨C, e9, rfl, _, r1, r2, _⟩ := hm
  have EK := Lib.hid eK
  have EL := Lib.hid eL
  have EM := Lib.hid eM
  rw [eK] at p1 HK
  rw [eL] at q1 HC
  rw [eM] at r1 HM
  rw [eK, eL, eM]
  rw [eK] at h1
  rw [eL] at h2
  rw [eM] at h3
  clear eK eL eM
  have hM0 : Below N w w := Below.refl _ _
  have hs0 : N ≤ w.heap.size := by omega
  have E_0 := Lib.hid (hE)
  have K_0 := Lib.hid (HK.out)
  have C_0 := Lib.hid (HC.out)
  have M_0 := Lib.hid (HM.out)
  clear hE HK HC HM hal hsl
  go_enter Tryd.func9, Tryd.ntmps9
  go_wp2_with (first | ((with_reducible show wpList _ _ _ _ _ w); refine box_blk (w := w) rfl 55 _ rfl ans rfl ?_; intro u0 hA0 hG0 hz0; rw [hN] at hA0 hz0 ⊢) | ((with_reducible show wpList _ _ _ _ _ u0); refine box_blk (w := u0) rfl 56 _ rfl st rfl ?_; intro u1 hA1 hG1 hz1; rw [hz0] at hA1 hz1 ⊢))
  have hL : Below w.heap.size w u1 := below_none (below_none (Below.refl _ _) (Nat.le_refl _) hG0) (by omega) hG1
  have zx := (hA0.old hG1 (by simp))
  have hM1 : Below N w u1 := below_more hM0 hL hs0
  have hs1 : N ≤ u1.heap.size := Nat.le_trans hs0 (hL).size
  have E_1 := Lib.hid (E_0.out.below hL)
  clear E_0
  have K_1 := Lib.hid (K_0.out.below hL)
  clear K_0
  have C_1 := Lib.hid (C_0.out.below hL)
  clear C_0
  have M_1 := Lib.hid (M_0.out.below hL)
  clear M_0
  clear hM0 hs0
  have X_1 := Lib.hid (zx)
  have Y_1 := Lib.hid (hA1)
  have HU := Lib.hid (show N + 2 ≤ u1.heap.size by omega)
  have MB_1 := Lib.hid (Below.refl u1.heap.size u1)
  clear hL zx hA0 hA1 hG0 hG1 hz0 hz1
  go_wp2_with fail
  refine (awake19 u1).mono ?_
  rintro e w2 ⟨rfl, hL⟩
  have hM2 : Below N w w2 := below_more hM1 hL hs1
  have hs2 : N ≤ w2.heap.size := Nat.le_trans hs1 (hL).size
  have E_2 := Lib.hid (E_1.out.below hL)
  clear E_1
  have K_2 := Lib.hid (K_1.out.below hL)
  clear K_1
  have C_2 := Lib.hid (C_1.out.below hL)
  clear C_1
  have M_2 := Lib.hid (M_1.out.below hL)
  clear M_1
  have X_2 := Lib.hid (X_1.out.under hL)
  clear X_1
  have Y_2 := Lib.hid (Y_1.out.under hL)
  clear Y_1
  have MB_2 := Lib.hid (below_more MB_1.out hL MB_1.out.size)
  clear MB_1
  clear hM1 hs1
  clear hL
  go_wp2_with fail
  refine (awake19 w2).mono ?_
  rintro e w3 ⟨rfl, hL⟩
  have hM3 : Below N w w3 := below_more hM2 hL hs2
  have hs3 : N ≤ w3.heap.size := Nat.le_trans hs2 (hL).size
  have E_3 := Lib.hid (E_2.out.below hL)
  clear E_2
  have K_3 := Lib.hid (K_2.out.below hL)
  clear K_2
  have C_3 := Lib.hid (C_2.out.below hL)
  clear C_2
  have M_3 := Lib.hid (M_2.out.below hL)
  clear M_2
  have X_3 := Lib.hid (X_2.out.under hL)
  clear X_2
  have Y_3 := Lib.hid (Y_2.out.under hL)
  clear Y_2
  have MB_3 := Lib.hid (below_more MB_2.out hL MB_2.out.size)
  clear MB_2
  clear hM2 hs2
  clear hL
  go_wp2_with fail
  go_ret
  exact ⟨rfl, by rw [HN.out]; exact hM3⟩
set_option maxHeartbeats 6400000 in
set_option maxRecDepth 100000 in
theorem AA_b1 (vk : Value) (key : List UInt8) (vc : Value) (code : List UInt8) (ans st : List UInt8) (vm : Value) (more : List UInt8) (w : World) (hE : Et w) (hk : SlB w vk key) (hc : SlB w vc code) (hal : ans.length = 2) (hsl : st.length = 4) (hm : SlB w vm more) (h1 : key.length ≤ 100) (h2 : code.length ≤ 100) (h3 : more.length ≤ 100) (h4 : key.length ≠ 16) : Calls Tryd.prog 9 #[vk, vc, .agg (Bs ans), .agg (Bs st), vm] w fun e w' => e = .returned (.bool true) ∧ Below w.heap.size w w' := by
  obtain ⟨N, hN⟩ : ∃ N, w.heap.size = N := ⟨_, rfl⟩
  have HN := Lib.hid hN
  have HK := Lib.hid hk
  have HC := Lib.hid hc
  have HM := Lib.hid hm
  have HAL := Lib.hid hal
  have HSL := Lib.hid hsl
  obtain ⟨K, eK⟩ : ∃ K, key.length = K := ⟨_, rfl⟩
  obtain ⟨L, eL⟩ : ∃ L, code.length = L := ⟨_, rfl⟩
  obtain ⟨M, eM⟩ : ∃ M, more.length = M := ⟨_, rfl⟩
  obtain ⟨A, c, rfl, _, p1, p2, _⟩ := hk
  obtain ⟨B, d, rfl, _, q1, q2, _⟩ := hc
  obtain ⟨C, e9, rfl, _, r1, r2, _⟩ := hm
  have EK := Lib.hid eK
  have EL := Lib.hid eL
  have EM := Lib.hid eM
  rw [eK] at p1 HK
  rw [eL] at q1 HC
  rw [eM] at r1 HM
  rw [eK, eL, eM]
  rw [eK] at h1
  rw [eL] at h2
  rw [eM] at h3
  have HNE := Lib.hid h4
  rw [eK] at h4
  have f1 : ((K : Int) != 16) = true := by simp; omega
  clear h4
  clear eK eL eM
  have hM0 : Below N w w := Below.refl _ _
  have hs0 : N ≤ w.heap.size := by omega
  have E_0 := Lib.hid (hE)
  have K_0 := Lib.hid (HK.out)
  have C_0 := Lib.hid (HC.out)
  have M_0 := Lib.hid (HM.out)
  clear hE HK HC HM hal hsl
  go_enter Tryd.func9, Tryd.ntmps9
  go_wp2_with (first | ((with_reducible show wpList _ _ _ _ _ w); refine box_blk (w := w) rfl 55 _ rfl ans rfl ?_; intro u0 hA0 hG0 hz0; rw [hN] at hA0 hz0 ⊢) | ((with_reducible show wpList _ _ _ _ _ u0); refine box_blk (w := u0) rfl 56 _ rfl st rfl ?_; intro u1 hA1 hG1 hz1; rw [hz0] at hA1 hz1 ⊢))
  have hL : Below w.heap.size w u1 := below_none (below_none (Below.refl _ _) (Nat.le_refl _) hG0) (by omega) hG1
  have zx := (hA0.old hG1 (by simp))
  have hM1 : Below N w u1 := below_more hM0 hL hs0
  have hs1 : N ≤ u1.heap.size := Nat.le_trans hs0 (hL).size
  have E_1 := Lib.hid (E_0.out.below hL)
  clear E_0
  have K_1 := Lib.hid (K_0.out.below hL)
  clear K_0
  have C_1 := Lib.hid (C_0.out.below hL)
  clear C_0
  have M_1 := Lib.hid (M_0.out.below hL)
  clear M_0
  clear hM0 hs0
  have X_1 := Lib.hid (zx)
  have Y_1 := Lib.hid (hA1)
  have HU := Lib.hid (show N + 2 ≤ u1.heap.size by omega)
  have MB_1 := Lib.hid (Below.refl u1.heap.size u1)
  clear hL zx hA0 hA1 hG0 hG1 hz0 hz1
  go_wp2_with fail
  refine (awake19 u1).mono ?_
  rintro e w2 ⟨rfl, hL⟩
  have hM2 : Below N w w2 := below_more hM1 hL hs1
  have hs2 : N ≤ w2.heap.size := Nat.le_trans hs1 (hL).size
  have E_2 := Lib.hid (E_1.out.below hL)
  clear E_1
  have K_2 := Lib.hid (K_1.out.below hL)
  clear K_1
  have C_2 := Lib.hid (C_1.out.below hL)
  clear C_1
  have M_2 := Lib.hid (M_1.out.below hL)
  clear M_1
  have X_2 := Lib.hid (X_1.out.under hL)
  clear X_1
  have Y_2 := Lib.hid (Y_1.out.under hL)
  clear Y_1
  have MB_2 := Lib.hid (below_more MB_1.out hL MB_1.out.size)
  clear MB_1
  clear hM1 hs1
  clear hL
  have cX0 := X_2.out.cell 0 (by rw [HAL.out]; decide)
  have cX1 := X_2.out.cell 1 (by rw [HAL.out]; decide)
  go_wp2_with fail
  refine (One_b1 #[.int .u8 (bv (g8 ans 0)), .int .u8 (bv (g8 ans 1))] _ _ key code ans w2 (Bs_two ans HAL.out) HAL.out K_2.out C_2.out (by rw [EK.out]; omega) (by rw [EL.out]; omega) HNE.out).mono ?_
  rintro e w3 ⟨rfl, hL⟩
  have hM3 : Below N w w3 := below_more hM2 hL hs2
  have hs3 : N ≤ w3.heap.size := Nat.le_trans hs2 (hL).size
  have E_3 := Lib.hid (E_2.out.below hL)
  clear E_2
  have K_3 := Lib.hid (K_2.out.below hL)
  clear K_2
  have C_3 := Lib.hid (C_2.out.below hL)
  clear C_2
  have M_3 := Lib.hid (M_2.out.below hL)
  clear M_2
  have X_3 := Lib.hid (X_2.out.under hL)
  clear X_2
  have Y_3 := Lib.hid (Y_2.out.under hL)
  clear Y_2
  have MB_3 := Lib.hid (below_more MB_2.out hL MB_2.out.size)
  clear MB_2
  clear hM2 hs2
  clear hL
  clear cX0 cX1
  have HSZ := Lib.hid (Nat.le_trans HU.out MB_3.out.size)
  have cY0 := Y_3.out.cell 0 (by rw [HSL.out]; decide)
  have cY1 := Y_3.out.cell 1 (by rw [HSL.out]; decide)
  have cY2 := Y_3.out.cell 2 (by rw [HSL.out]; decide)
  have cY3 := Y_3.out.cell 3 (by rw [HSL.out]; decide)
  go_wp2_with fail
  refine (Two_b1 #[.int .u8 (bv (g8 st 0)), .int .u8 (bv (g8 st 1)), .int .u8 (bv (g8 st 2)), .int .u8 (bv (g8 st 3))] _ _ _ key code st more w3 (Bs_four st HSL.out) HSL.out K_3.out C_3.out M_3.out (by rw [EK.out]; omega) (by rw [EL.out]; omega) (by rw [EM.out]; omega) HNE.out).mono ?_
  rintro e w4 ⟨rfl, hL⟩
  have hM4 : Below N w w4 := below_more hM3 hL hs3
  have hs4 : N ≤ w4.heap.size := Nat.le_trans hs3 (hL).size
  have E_4 := Lib.hid (E_3.out.below hL)
  clear E_3
  have K_4 := Lib.hid (K_3.out.below hL)
  clear K_3
  have C_4 := Lib.hid (C_3.out.below hL)
  clear C_3
  have M_4 := Lib.hid (M_3.out.below hL)
  clear M_3
  have X_4 := Lib.hid (X_3.out.under hL)
  clear X_3
  have Y_4 := Lib.hid (Y_3.out.under hL)
  clear Y_3
  have MB_4 := Lib.hid (below_more MB_3.out hL MB_3.out.size)
  clear MB_3
  clear hM3 hs3
  clear hL
  clear cY0 cY1 cY2 cY3
  go_wp2_with fail
  refine (Code_any [] 2 _ w4 E_4.out rfl).mono ?_
  rintro e w5 ⟨rfl, hL⟩
  have hM5 : Below N w w5 := below_more hM4 hL hs4
  have hs5 : N ≤ w5.heap.size := Nat.le_trans hs4 (hL).size
  have E_5 := Lib.hid (E_4.out.below hL)
  clear E_4
  have K_5 := Lib.hid (K_4.out.below hL)
  clear K_4
  have C_5 := Lib.hid (C_4.out.below hL)
  clear C_4
  have M_5 := Lib.hid (M_4.out.below hL)
  clear M_4
  have X_5 := Lib.hid (X_4.out.under hL)
  clear X_4
  have Y_5 := Lib.hid (Y_4.out.under hL)
  clear Y_4
  have MB_5 := Lib.hid (below_more MB_4.out hL MB_4.out.size)
  clear MB_4
  clear hM4 hs4
  clear hL
  go_wp2_with fail
  refine (Code_any [] 2 _ w5 E_5.out rfl).mono ?_
  rintro e w6 ⟨rfl, hL⟩
  have hM6 : Below N w w6 := below_more hM5 hL hs5
  have hs6 : N ≤ w6.heap.size := Nat.le_trans hs5 (hL).size
  have E_6 := Lib.hid (E_5.out.below hL)
  clear E_5
  have K_6 := Lib.hid (K_5.out.below hL)
  clear K_5
  have C_6 := Lib.hid (C_5.out.below hL)
  clear C_5
  have M_6 := Lib.hid (M_5.out.below hL)
  clear M_5
  have X_6 := Lib.hid (X_5.out.under hL)
  clear X_5
  have Y_6 := Lib.hid (Y_5.out.under hL)
  clear Y_5
  have MB_6 := Lib.hid (below_more MB_5.out hL MB_5.out.size)
  clear MB_5
  clear hM5 hs5
  clear hL
  go_wp2_with fail
  go_ret
  exact ⟨rfl, by rw [HN.out]; exact hM6⟩
set_option maxHeartbeats 6400000 in
set_option maxRecDepth 100000 in
theorem AA_b2 (vk : Value) (key : List UInt8) (vc : Value) (code : List UInt8) (ans st : List UInt8) (vm : Value) (more : List UInt8) (w : World) (hE : Et w) (hk : SlB w vk key) (hc : SlB w vc code) (hal : ans.length = 2) (hsl : st.length = 4) (hm : SlB w vm more) (h1 : key.length ≤ 100) (h2 : code.length ≤ 100) (h3 : more.length ≤ 100) (h4 : key.length = 16) (h5 : code.length ≠ 8) : Calls Tryd.prog 9 #[vk, vc, .agg (Bs ans), .agg (Bs st), vm] w fun e w' => e = .returned (.bool true) ∧ Below w.heap.size w w' := by
  obtain ⟨N, hN⟩ : ∃ N, w.heap.size = N := ⟨_, rfl⟩
  have HN := Lib.hid hN
  have HK := Lib.hid hk
  have HC := Lib.hid hc
  have HM := Lib.hid hm
  have HAL := Lib.hid hal
  have HSL := Lib.hid hsl
  obtain ⟨K, eK⟩ : ∃ K, key.length = K := ⟨_, rfl⟩
  obtain ⟨L, eL⟩ : ∃ L, code.length = L := ⟨_, rfl⟩
  obtain ⟨M, eM⟩ : ∃ M, more.length = M := ⟨_, rfl⟩
  obtain ⟨A, c, rfl, _, p1, p2, _⟩ := hk
  obtain ⟨B, d, rfl, _, q1, q2, _⟩ := hc
  obtain ⟨C, e9, rfl, _, r1, r2, _⟩ := hm
  have EK := Lib.hid eK
  have EL := Lib.hid eL
  have EM := Lib.hid eM
  rw [eK] at p1 HK
  rw [eL] at q1 HC
  rw [eM] at r1 HM
  rw [eK, eL, eM]
  rw [eK] at h1
  rw [eL] at h2
  rw [eM] at h3
  have HKL := Lib.hid h4
  have HNE := Lib.hid h5
  rw [eK] at h4
  rw [eL] at h5
  subst h4
  have f1 : ((L : Int) != 8) = true := by simp; omega
  clear h5
  clear eK eL eM
  have hM0 : Below N w w := Below.refl _ _
  have hs0 : N ≤ w.heap.size := by omega
  have E_0 := Lib.hid (hE)
  have K_0 := Lib.hid (HK.out)
  have C_0 := Lib.hid (HC.out)
  have M_0 := Lib.hid (HM.out)
  clear hE HK HC HM hal hsl
  go_enter Tryd.func9, Tryd.ntmps9
  go_wp2_with (first | ((with_reducible show wpList _ _ _ _ _ w); refine box_blk (w := w) rfl 55 _ rfl ans rfl ?_; intro u0 hA0 hG0 hz0; rw [hN] at hA0 hz0 ⊢) | ((with_reducible show wpList _ _ _ _ _ u0); refine box_blk (w := u0) rfl 56 _ rfl st rfl ?_; intro u1 hA1 hG1 hz1; rw [hz0] at hA1 hz1 ⊢))
  have hL : Below w.heap.size w u1 := below_none (below_none (Below.refl _ _) (Nat.le_refl _) hG0) (by omega) hG1
  have zx := (hA0.old hG1 (by simp))
  have hM1 : Below N w u1 := below_more hM0 hL hs0
  have hs1 : N ≤ u1.heap.size := Nat.le_trans hs0 (hL).size
  have E_1 := Lib.hid (E_0.out.below hL)
  clear E_0
  have K_1 := Lib.hid (K_0.out.below hL)
  clear K_0
  have C_1 := Lib.hid (C_0.out.below hL)
  clear C_0
  have M_1 := Lib.hid (M_0.out.below hL)
  clear M_0
  clear hM0 hs0
  have X_1 := Lib.hid (zx)
  have Y_1 := Lib.hid (hA1)
  have HU := Lib.hid (show N + 2 ≤ u1.heap.size by omega)
  have MB_1 := Lib.hid (Below.refl u1.heap.size u1)
  clear hL zx hA0 hA1 hG0 hG1 hz0 hz1
  go_wp2_with fail
  refine (awake19 u1).mono ?_
  rintro e w2 ⟨rfl, hL⟩
  have hM2 : Below N w w2 := below_more hM1 hL hs1
  have hs2 : N ≤ w2.heap.size := Nat.le_trans hs1 (hL).size
  have E_2 := Lib.hid (E_1.out.below hL)
  clear E_1
  have K_2 := Lib.hid (K_1.out.below hL)
  clear K_1
  have C_2 := Lib.hid (C_1.out.below hL)
  clear C_1
  have M_2 := Lib.hid (M_1.out.below hL)
  clear M_1
  have X_2 := Lib.hid (X_1.out.under hL)
  clear X_1
  have Y_2 := Lib.hid (Y_1.out.under hL)
  clear Y_1
  have MB_2 := Lib.hid (below_more MB_1.out hL MB_1.out.size)
  clear MB_1
  clear hM1 hs1
  clear hL
  have cX0 := X_2.out.cell 0 (by rw [HAL.out]; decide)
  have cX1 := X_2.out.cell 1 (by rw [HAL.out]; decide)
  go_wp2_with fail
  refine (One_b2 #[.int .u8 (bv (g8 ans 0)), .int .u8 (bv (g8 ans 1))] _ _ key code ans w2 (Bs_two ans HAL.out) HAL.out K_2.out C_2.out (by rw [EK.out]; omega) (by rw [EL.out]; omega) HKL.out HNE.out).mono ?_
  rintro e w3 ⟨rfl, hL⟩
  have hM3 : Below N w w3 := below_more hM2 hL hs2
  have hs3 : N ≤ w3.heap.size := Nat.le_trans hs2 (hL).size
  have E_3 := Lib.hid (E_2.out.below hL)
  clear E_2
  have K_3 := Lib.hid (K_2.out.below hL)
  clear K_2
  have C_3 := Lib.hid (C_2.out.below hL)
  clear C_2
  have M_3 := Lib.hid (M_2.out.below hL)
  clear M_2
  have X_3 := Lib.hid (X_2.out.under hL)
  clear X_2
  have Y_3 := Lib.hid (Y_2.out.under hL)
  clear Y_2
  have MB_3 := Lib.hid (below_more MB_2.out hL MB_2.out.size)
  clear MB_2
  clear hM2 hs2
  clear hL
  clear cX0 cX1
  have HSZ := Lib.hid (Nat.le_trans HU.out MB_3.out.size)
  have cY0 := Y_3.out.cell 0 (by rw [HSL.out]; decide)
  have cY1 := Y_3.out.cell 1 (by rw [HSL.out]; decide)
  have cY2 := Y_3.out.cell 2 (by rw [HSL.out]; decide)
  have cY3 := Y_3.out.cell 3 (by rw [HSL.out]; decide)
  go_wp2_with fail
  refine (Two_b2 #[.int .u8 (bv (g8 st 0)), .int .u8 (bv (g8 st 1)), .int .u8 (bv (g8 st 2)), .int .u8 (bv (g8 st 3))] _ _ _ key code st more w3 (Bs_four st HSL.out) HSL.out K_3.out C_3.out M_3.out (by rw [EK.out]; omega) (by rw [EL.out]; omega) (by rw [EM.out]; omega) HKL.out HNE.out).mono ?_
  rintro e w4 ⟨rfl, hL⟩
  have hM4 : Below N w w4 := below_more hM3 hL hs3
  have hs4 : N ≤ w4.heap.size := Nat.le_trans hs3 (hL).size
  have E_4 := Lib.hid (E_3.out.below hL)
  clear E_3
  have K_4 := Lib.hid (K_3.out.below hL)
  clear K_3
  have C_4 := Lib.hid (C_3.out.below hL)
  clear C_3
  have M_4 := Lib.hid (M_3.out.below hL)
  clear M_3
  have X_4 := Lib.hid (X_3.out.under hL)
  clear X_3
  have Y_4 := Lib.hid (Y_3.out.under hL)
  clear Y_3
  have MB_4 := Lib.hid (below_more MB_3.out hL MB_3.out.size)
  clear MB_3
  clear hM3 hs3
  clear hL
  clear cY0 cY1 cY2 cY3
  go_wp2_with fail
  refine (Code_any [] 2 _ w4 E_4.out rfl).mono ?_
  rintro e w5 ⟨rfl, hL⟩
  have hM5 : Below N w w5 := below_more hM4 hL hs4
  have hs5 : N ≤ w5.heap.size := Nat.le_trans hs4 (hL).size
  have E_5 := Lib.hid (E_4.out.below hL)
  clear E_4
  have K_5 := Lib.hid (K_4.out.below hL)
  clear K_4
  have C_5 := Lib.hid (C_4.out.below hL)
  clear C_4
  have M_5 := Lib.hid (M_4.out.below hL)
  clear M_4
  have X_5 := Lib.hid (X_4.out.under hL)
  clear X_4
  have Y_5 := Lib.hid (Y_4.out.under hL)
  clear Y_4
  have MB_5 := Lib.hid (below_more MB_4.out hL MB_4.out.size)
  clear MB_4
  clear hM4 hs4
  clear hL
  go_wp2_with fail
  refine (Code_any [] 2 _ w5 E_5.out rfl).mono ?_
  rintro e w6 ⟨rfl, hL⟩
  have hM6 : Below N w w6 := below_more hM5 hL hs5
  have hs6 : N ≤ w6.heap.size := Nat.le_trans hs5 (hL).size
  have E_6 := Lib.hid (E_5.out.below hL)
  clear E_5
  have K_6 := Lib.hid (K_5.out.below hL)
  clear K_5
  have C_6 := Lib.hid (C_5.out.below hL)
  clear C_5
  have M_6 := Lib.hid (M_5.out.below hL)
  clear M_5
  have X_6 := Lib.hid (X_5.out.under hL)
  clear X_5
  have Y_6 := Lib.hid (Y_5.out.under hL)
  clear Y_5
  have MB_6 := Lib.hid (below_more MB_5.out hL MB_5.out.size)
  clear MB_5
  clear hM5 hs5
  clear hL
  go_wp2_with fail
  go_ret
  exact ⟨rfl, by rw [HN.out]; exact hM6⟩
theorem turn2_xor (c a : List UInt8) (hc : c.length = 8) (ha : a.length = 2) : pxor c [g8 a 0, g8 a 1, 0, 0, 0, 0, 0, 0] = turn2 c a := by
  match c, hc, a, ha with
  | [c0, c1, c2, c3, c4, c5, c6, c7], _, [a0, a1], _ => simp [pxor, turn2, xorTo, g8, List.range, List.range.loop]
set_option maxHeartbeats 6400000 in
set_option maxRecDepth 100000 in
theorem AA_m (vk : Value) (key : List UInt8) (vc : Value) (code : List UInt8) (ans st : List UInt8) (vm : Value) (more : List UInt8) (w : World) (hE : Et w) (hk : SlB w vk key) (hc : SlB w vc code) (hal : ans.length = 2) (hsl : st.length = 4) (hm : SlB w vm more) (h1 : key.length ≤ 100) (h2 : code.length ≤ 100) (h3 : more.length ≤ 100) (h4 : key.length = 16) (h5 : code.length = 8) (h6 : 8 < more.length) : Calls Tryd.prog 9 #[vk, vc, .agg (Bs ans), .agg (Bs st), vm] w fun e w' => e = .returned (.bool true) ∧ Below w.heap.size w w' := by
  obtain ⟨N, hN⟩ : ∃ N, w.heap.size = N := ⟨_, rfl⟩
  have HN := Lib.hid hN
  have HK := Lib.hid hk
  have HC := Lib.hid hc
  have HM := Lib.hid hm
  have HAL := Lib.hid hal
  have HSL := Lib.hid hsl
  obtain ⟨K, eK⟩ : ∃ K, key.length = K := ⟨_, rfl⟩
  obtain ⟨L, eL⟩ : ∃ L, code.length = L := ⟨_, rfl⟩
  obtain ⟨M, eM⟩ : ∃ M, more.length = M := ⟨_, rfl⟩
  obtain ⟨A, c, rfl, _, p1, p2, _⟩ := hk
  obtain ⟨B, d, rfl, _, q1, q2, _⟩ := hc
  obtain ⟨C, e9, rfl, _, r1, r2, _⟩ := hm
  have EK := Lib.hid eK
  have EL := Lib.hid eL
  have EM := Lib.hid eM
  rw [eK] at p1 HK
  rw [eL] at q1 HC
  rw [eM] at r1 HM
  rw [eK, eL, eM]
  rw [eK] at h1
  rw [eL] at h2
  rw [eM] at h3
  have HKL := Lib.hid h4
  have HCL := Lib.hid h5
  rw [eK] at h4
  rw [eL] at h5
  subst h4 h5
  have HT2 := Lib.hid (turn2_xor code ans HCL.out HAL.out)
  rw [eM] at h6
  clear eK eL eM
  have hM0 : Below N w w := Below.refl _ _
  have hs0 : N ≤ w.heap.size := by omega
  have E_0 := Lib.hid (hE)
  have K_0 := Lib.hid (HK.out)
  have C_0 := Lib.hid (HC.out)
  have M_0 := Lib.hid (HM.out)
  clear hE HK HC HM hal hsl
  go_enter Tryd.func9, Tryd.ntmps9
  go_wp2_with (first | ((with_reducible show wpList _ _ _ _ _ w); refine box_blk (w := w) rfl 55 _ rfl ans rfl ?_; intro u0 hA0 hG0 hz0; rw [hN] at hA0 hz0 ⊢) | ((with_reducible show wpList _ _ _ _ _ u0); refine box_blk (w := u0) rfl 56 _ rfl st rfl ?_; intro u1 hA1 hG1 hz1; rw [hz0] at hA1 hz1 ⊢))
  have hL : Below w.heap.size w u1 := below_none (below_none (Below.refl _ _) (Nat.le_refl _) hG0) (by omega) hG1
  have zx := (hA0.old hG1 (by simp))
  have hM1 : Below N w u1 := below_more hM0 hL hs0
  have hs1 : N ≤ u1.heap.size := Nat.le_trans hs0 (hL).size
  have E_1 := Lib.hid (E_0.out.below hL)
  clear E_0
  have K_1 := Lib.hid (K_0.out.below hL)
  clear K_0
  have C_1 := Lib.hid (C_0.out.below hL)
  clear C_0
  have M_1 := Lib.hid (M_0.out.below hL)
  clear M_0
  clear hM0 hs0
  have X_1 := Lib.hid (zx)
  have Y_1 := Lib.hid (hA1)
  have HU := Lib.hid (show N + 2 ≤ u1.heap.size by omega)
  have MB_1 := Lib.hid (Below.refl u1.heap.size u1)
  clear hL zx hA0 hA1 hG0 hG1 hz0 hz1
  go_wp2_with fail
  refine (awake19 u1).mono ?_
  rintro e w2 ⟨rfl, hL⟩
  have hM2 : Below N w w2 := below_more hM1 hL hs1
  have hs2 : N ≤ w2.heap.size := Nat.le_trans hs1 (hL).size
  have E_2 := Lib.hid (E_1.out.below hL)
  clear E_1
  have K_2 := Lib.hid (K_1.out.below hL)
  clear K_1
  have C_2 := Lib.hid (C_1.out.below hL)
  clear C_1
  have M_2 := Lib.hid (M_1.out.below hL)
  clear M_1
  have X_2 := Lib.hid (X_1.out.under hL)
  clear X_1
  have Y_2 := Lib.hid (Y_1.out.under hL)
  clear Y_1
  have MB_2 := Lib.hid (below_more MB_1.out hL MB_1.out.size)
  clear MB_1
  clear hM1 hs1
  clear hL
  have cX0 := X_2.out.cell 0 (by rw [HAL.out]; decide)
  have cX1 := X_2.out.cell 1 (by rw [HAL.out]; decide)
  go_wp2_with fail
  refine (One_arr #[.int .u8 (bv (g8 ans 0)), .int .u8 (bv (g8 ans 1))] _ _ key code ans (Bs_two ans HAL.out) w2 K_2.out HKL.out C_2.out HCL.out HAL.out).mono ?_
  rintro e w3 ⟨vP, rfl, hO, hL⟩
  have hxl : (pone key code ans).length = 8 := ptriple_len _ _ _
  have hsl := hO.new.slB (by rw [hxl]; decide)
  obtain ⟨gP, TP, _, eP, _, _⟩ := hO
  rw [hxl] at eP
  subst eP
  clear hxl
  have hM3 : Below N w w3 := below_more hM2 hL hs2
  have hs3 : N ≤ w3.heap.size := Nat.le_trans hs2 (hL).size
  have E_3 := Lib.hid (E_2.out.below hL)
  clear E_2
  have K_3 := Lib.hid (K_2.out.below hL)
  clear K_2
  have C_3 := Lib.hid (C_2.out.below hL)
  clear C_2
  have M_3 := Lib.hid (M_2.out.below hL)
  clear M_2
  have X_3 := Lib.hid (X_2.out.under hL)
  clear X_2
  have Y_3 := Lib.hid (Y_2.out.under hL)
  clear Y_2
  have MB_3 := Lib.hid (below_more MB_2.out hL MB_2.out.size)
  clear MB_2
  clear hM2 hs2
  have P_3 := Lib.hid (hsl)
  clear hL hsl
  clear cX0 cX1
  have cY0 := Y_3.out.cell 0 (by rw [HSL.out]; decide)
  have cY1 := Y_3.out.cell 1 (by rw [HSL.out]; decide)
  have cY2 := Y_3.out.cell 2 (by rw [HSL.out]; decide)
  have cY3 := Y_3.out.cell 3 (by rw [HSL.out]; decide)
  go_wp2_with fail
  refine (Two_b3 #[.int .u8 (bv (g8 st 0)), .int .u8 (bv (g8 st 1)), .int .u8 (bv (g8 st 2)), .int .u8 (bv (g8 st 3))] _ _ _ key code st more w3 (Bs_four st HSL.out) HSL.out K_3.out C_3.out M_3.out (by rw [HKL.out]; omega) (by rw [HCL.out]; omega) (by rw [EM.out]; omega) HKL.out HCL.out (by rw [EM.out]; omega)).mono ?_
  rintro e w4 ⟨rfl, hL⟩
  have hM4 : Below N w w4 := below_more hM3 hL hs3
  have hs4 : N ≤ w4.heap.size := Nat.le_trans hs3 (hL).size
  have E_4 := Lib.hid (E_3.out.below hL)
  clear E_3
  have K_4 := Lib.hid (K_3.out.below hL)
  clear K_3
  have C_4 := Lib.hid (C_3.out.below hL)
  clear C_3
  have M_4 := Lib.hid (M_3.out.below hL)
  clear M_3
  have X_4 := Lib.hid (X_3.out.under hL)
  clear X_3
  have Y_4 := Lib.hid (Y_3.out.under hL)
  clear Y_3
  have MB_4 := Lib.hid (below_more MB_3.out hL MB_3.out.size)
  clear MB_3
  have P_4 := Lib.hid (P_3.out.below hL)
  clear P_3
  clear hM3 hs3
  clear hL
  clear cY0 cY1 cY2 cY3
  have cX0 := X_4.out.cell 0 (by rw [HAL.out]; decide)
  have cX1 := X_4.out.cell 1 (by rw [HAL.out]; decide)
  go_wp2_with fail
  generalize hww5 : w4.alloc _ = w5
  have hBw5 : Blk w5 w4.heap.size u8t [g8 ans 0, g8 ans 1, 0, 0, 0, 0, 0, 0] := by rw [← hww5]; exact heap_alloc_new w4 _
  have hL : Below w4.heap.size w4 w5 := by rw [← hww5]; exact below_alloc (Below.refl _ _) (Nat.le_refl _) _
  clear hww5
  have hM5 : Below N w w5 := below_more hM4 hL hs4
  have hs5 : N ≤ w5.heap.size := Nat.le_trans hs4 (hL).size
  have E_5 := Lib.hid (E_4.out.below hL)
  clear E_4
  have K_5 := Lib.hid (K_4.out.below hL)
  clear K_4
  have C_5 := Lib.hid (C_4.out.below hL)
  clear C_4
  have M_5 := Lib.hid (M_4.out.below hL)
  clear M_4
  have X_5 := Lib.hid (X_4.out.under hL)
  clear X_4
  have Y_5 := Lib.hid (Y_4.out.under hL)
  clear Y_4
  have MB_5 := Lib.hid (below_more MB_4.out hL MB_4.out.size)
  clear MB_4
  have P_5 := Lib.hid (P_4.out.below hL)
  clear P_4
  clear hM4 hs4
  clear hL
  have T_5 := Lib.hid (hBw5.slB (n := 8) rfl (by decide))
  clear hBw5
  clear cX0 cX1
  refine (RXor_any _ _ code [g8 ans 0, g8 ans 1, 0, 0, 0, 0, 0, 0] w5 C_5.out T_5.out HCL.out (by rw [HCL.out]; decide)).mono ?_
  rintro e w6 ⟨vR, rfl, hO, hL⟩
  rw [HT2.out] at hO
  obtain ⟨AR, cR, rfl, hcR⟩ := hO.slB.formc (L := 8) (by rw [turn2_len, HCL.out])
  have hM6 : Below N w w6 := below_more hM5 hL hs5
  have hs6 : N ≤ w6.heap.size := Nat.le_trans hs5 (hL).size
  have E_6 := Lib.hid (E_5.out.below hL)
  clear E_5
  have K_6 := Lib.hid (K_5.out.below hL)
  clear K_5
  have C_6 := Lib.hid (C_5.out.below hL)
  clear C_5
  have M_6 := Lib.hid (M_5.out.below hL)
  clear M_5
  have X_6 := Lib.hid (X_5.out.under hL)
  clear X_5
  have Y_6 := Lib.hid (Y_5.out.under hL)
  clear Y_5
  have MB_6 := Lib.hid (below_more MB_5.out hL MB_5.out.size)
  clear MB_5
  have P_6 := Lib.hid (P_5.out.below hL)
  clear P_5
  have T_6 := Lib.hid (T_5.out.below hL)
  clear T_5
  clear hM5 hs5
  have R_6 := Lib.hid (hO.slB)
  clear hL hO
  clear T_6
  go_wp2_with fail
  refine (rTriple_any false _ _ key (turn2 code ans) w6 K_6.out (.inl HKL.out) R_6.out (by rw [turn2_len, HCL.out])).mono ?_
  rintro e w7 ⟨vS, rfl, hO, hL⟩
  obtain ⟨AS, cS, rfl, hcS⟩ := hO.slB.formc (ptriple_len _ _ _)
  have hM7 : Below N w w7 := below_more hM6 hL hs6
  have hs7 : N ≤ w7.heap.size := Nat.le_trans hs6 (hL).size
  have E_7 := Lib.hid (E_6.out.below hL)
  clear E_6
  have K_7 := Lib.hid (K_6.out.below hL)
  clear K_6
  have C_7 := Lib.hid (C_6.out.below hL)
  clear C_6
  have M_7 := Lib.hid (M_6.out.below hL)
  clear M_6
  have X_7 := Lib.hid (X_6.out.under hL)
  clear X_6
  have Y_7 := Lib.hid (Y_6.out.under hL)
  clear Y_6
  have MB_7 := Lib.hid (below_more MB_6.out hL MB_6.out.size)
  clear MB_6
  have P_7 := Lib.hid (P_6.out.below hL)
  clear P_6
  have R_7 := Lib.hid (R_6.out.below hL)
  clear R_6
  clear hM6 hs6
  have S_7 := Lib.hid (hO.slB)
  clear hL hO
  clear R_7
  go_wp2_with fail
  refine (Same_any _ _ (pone key code ans) (ptriple key (turn2 code ans) false) w7 P_7.out S_7.out (by rw [show (pone key code ans).length = 8 from ptriple_len _ _ _]; decide)).mono ?_
  rintro e w8 ⟨rfl, hD⟩
  rw [show (pone key code ans == ptriple key (turn2 code ans) false) = true from beq_self_eq_true _]
  have hM8 : Below N w w8 := below_more hM7 hD.below0 hs7
  have hs8 : N ≤ w8.heap.size := Nat.le_trans hs7 (hD.below0).size
  have E_8 := Lib.hid (E_7.out.below hD.below0)
  clear E_7
  have K_8 := Lib.hid (K_7.out.below hD.below0)
  clear K_7
  have C_8 := Lib.hid (C_7.out.below hD.below0)
  clear C_7
  have M_8 := Lib.hid (M_7.out.below hD.below0)
  clear M_7
  have X_8 := Lib.hid (X_7.out.under hD.below0)
  clear X_7
  have Y_8 := Lib.hid (Y_7.out.under hD.below0)
  clear Y_7
  have MB_8 := Lib.hid (below_more MB_7.out hD.below0 MB_7.out.size)
  clear MB_7
  have P_8 := Lib.hid (P_7.out.below hD.below0)
  clear P_7
  have S_8 := Lib.hid (S_7.out.below hD.below0)
  clear S_7
  clear hM7 hs7
  clear hD
  clear S_8
  clear P_8
  go_wp2_with fail
  refine (Code_any [] 2 _ w8 E_8.out rfl).mono ?_
  rintro e w9 ⟨rfl, hL⟩
  have hM9 : Below N w w9 := below_more hM8 hL hs8
  have hs9 : N ≤ w9.heap.size := Nat.le_trans hs8 (hL).size
  have E_9 := Lib.hid (E_8.out.below hL)
  clear E_8
  have K_9 := Lib.hid (K_8.out.below hL)
  clear K_8
  have C_9 := Lib.hid (C_8.out.below hL)
  clear C_8
  have M_9 := Lib.hid (M_8.out.below hL)
  clear M_8
  have X_9 := Lib.hid (X_8.out.under hL)
  clear X_8
  have Y_9 := Lib.hid (Y_8.out.under hL)
  clear Y_8
  have MB_9 := Lib.hid (below_more MB_8.out hL MB_8.out.size)
  clear MB_8
  clear hM8 hs8
  clear hL
  go_wp2_with fail
  go_ret
  exact ⟨rfl, by rw [HN.out]; exact hM9⟩
theorem load_u8A (w : World) (ad : Addr) (u : Value) (h : w.cell? ad = some u) : (loadVar 5 ad : Sem Value).run Tryd.prog w = .ok u w := by
  simp [loadVar, go_sem, h]
theorem four_list (l : List UInt8) (h : l.length = 4) : [g8 l 0, g8 l 1, g8 l 2, g8 l 3] = l := by
  match l, h with
  | [a, b, c, d], _ => rfl
set_option maxHeartbeats 6400000 in
set_option maxRecDepth 100000 in
theorem AA_ok (vk : Value) (key : List UInt8) (vc : Value) (code : List UInt8) (ans st : List UInt8) (vm : Value) (more : List UInt8) (w : World) (hE : Et w) (hk : SlB w vk key) (hc : SlB w vc code) (hal : ans.length = 2) (hsl : st.length = 4) (hm : SlB w vm more) (h1 : key.length ≤ 100) (h2 : code.length ≤ 100) (h3 : more.length ≤ 100) (h4 : key.length = 16) (h5 : code.length = 8) (h6 : more.length ≤ 8) : Calls Tryd.prog 9 #[vk, vc, .agg (Bs ans), .agg (Bs st), vm] w fun e w' => e = .returned (.bool true) ∧ Below w.heap.size w w' := by
  obtain ⟨N, hN⟩ : ∃ N, w.heap.size = N := ⟨_, rfl⟩
  have HN := Lib.hid hN
  have HK := Lib.hid hk
  have HC := Lib.hid hc
  have HM := Lib.hid hm
  have HAL := Lib.hid hal
  have HSL := Lib.hid hsl
  obtain ⟨K, eK⟩ : ∃ K, key.length = K := ⟨_, rfl⟩
  obtain ⟨L, eL⟩ : ∃ L, code.length = L := ⟨_, rfl⟩
  obtain ⟨M, eM⟩ : ∃ M, more.length = M := ⟨_, rfl⟩
  obtain ⟨A, c, rfl, _, p1, p2, _⟩ := hk
  obtain ⟨B, d, rfl, _, q1, q2, _⟩ := hc
  obtain ⟨C, e9, rfl, _, r1, r2, _⟩ := hm
  have EK := Lib.hid eK
  have EL := Lib.hid eL
  have EM := Lib.hid eM
  rw [eK] at p1 HK
  rw [eL] at q1 HC
  rw [eM] at r1 HM
  rw [eK, eL, eM]
  rw [eK] at h1
  rw [eL] at h2
  rw [eM] at h3
  have HKL := Lib.hid h4
  have HCL := Lib.hid h5
  rw [eK] at h4
  rw [eL] at h5
  subst h4 h5
  have HT2 := Lib.hid (turn2_xor code ans HCL.out HAL.out)
  rw [eM] at h6
  clear eK eL eM
  have hM0 : Below N w w := Below.refl _ _
  have hs0 : N ≤ w.heap.size := by omega
  have E_0 := Lib.hid (hE)
  have K_0 := Lib.hid (HK.out)
  have C_0 := Lib.hid (HC.out)
  have M_0 := Lib.hid (HM.out)
  clear hE HK HC HM hal hsl
  go_enter Tryd.func9, Tryd.ntmps9
  go_wp2_with (first | ((with_reducible show wpList _ _ _ _ _ w); refine box_blk (w := w) rfl 55 _ rfl ans rfl ?_; intro u0 hA0 hG0 hz0; rw [hN] at hA0 hz0 ⊢) | ((with_reducible show wpList _ _ _ _ _ u0); refine box_blk (w := u0) rfl 56 _ rfl st rfl ?_; intro u1 hA1 hG1 hz1; rw [hz0] at hA1 hz1 ⊢))
  have hL : Below w.heap.size w u1 := below_none (below_none (Below.refl _ _) (Nat.le_refl _) hG0) (by omega) hG1
  have zx := (hA0.old hG1 (by simp))
  have hM1 : Below N w u1 := below_more hM0 hL hs0
  have hs1 : N ≤ u1.heap.size := Nat.le_trans hs0 (hL).size
  have E_1 := Lib.hid (E_0.out.below hL)
  clear E_0
  have K_1 := Lib.hid (K_0.out.below hL)
  clear K_0
  have C_1 := Lib.hid (C_0.out.below hL)
  clear C_0
  have M_1 := Lib.hid (M_0.out.below hL)
  clear M_0
  clear hM0 hs0
  have X_1 := Lib.hid (zx)
  have Y_1 := Lib.hid (hA1)
  have HU := Lib.hid (show N + 2 ≤ u1.heap.size by omega)
  have MB_1 := Lib.hid (Below.refl u1.heap.size u1)
  clear hL zx hA0 hA1 hG0 hG1 hz0 hz1
  go_wp2_with fail
  refine (awake19 u1).mono ?_
  rintro e w2 ⟨rfl, hL⟩
  have hM2 : Below N w w2 := below_more hM1 hL hs1
  have hs2 : N ≤ w2.heap.size := Nat.le_trans hs1 (hL).size
  have E_2 := Lib.hid (E_1.out.below hL)
  clear E_1
  have K_2 := Lib.hid (K_1.out.below hL)
  clear K_1
  have C_2 := Lib.hid (C_1.out.below hL)
  clear C_1
  have M_2 := Lib.hid (M_1.out.below hL)
  clear M_1
  have X_2 := Lib.hid (X_1.out.under hL)
  clear X_1
  have Y_2 := Lib.hid (Y_1.out.under hL)
  clear Y_1
  have MB_2 := Lib.hid (below_more MB_1.out hL MB_1.out.size)
  clear MB_1
  clear hM1 hs1
  clear hL
  have cX0 := X_2.out.cell 0 (by rw [HAL.out]; decide)
  have cX1 := X_2.out.cell 1 (by rw [HAL.out]; decide)
  go_wp2_with fail
  refine (One_arr #[.int .u8 (bv (g8 ans 0)), .int .u8 (bv (g8 ans 1))] _ _ key code ans (Bs_two ans HAL.out) w2 K_2.out HKL.out C_2.out HCL.out HAL.out).mono ?_
  rintro e w3 ⟨vP, rfl, hO, hL⟩
  have hxl : (pone key code ans).length = 8 := ptriple_len _ _ _
  have hsl := hO.new.slB (by rw [hxl]; decide)
  obtain ⟨gP, TP, _, eP, _, _⟩ := hO
  rw [hxl] at eP
  subst eP
  clear hxl
  have hM3 : Below N w w3 := below_more hM2 hL hs2
  have hs3 : N ≤ w3.heap.size := Nat.le_trans hs2 (hL).size
  have E_3 := Lib.hid (E_2.out.below hL)
  clear E_2
  have K_3 := Lib.hid (K_2.out.below hL)
  clear K_2
  have C_3 := Lib.hid (C_2.out.below hL)
  clear C_2
  have M_3 := Lib.hid (M_2.out.below hL)
  clear M_2
  have X_3 := Lib.hid (X_2.out.under hL)
  clear X_2
  have Y_3 := Lib.hid (Y_2.out.under hL)
  clear Y_2
  have MB_3 := Lib.hid (below_more MB_2.out hL MB_2.out.size)
  clear MB_2
  clear hM2 hs2
  have P_3 := Lib.hid (hsl)
  clear hL hsl
  clear cX0 cX1
  have cY0 := Y_3.out.cell 0 (by rw [HSL.out]; decide)
  have cY1 := Y_3.out.cell 1 (by rw [HSL.out]; decide)
  have cY2 := Y_3.out.cell 2 (by rw [HSL.out]; decide)
  have cY3 := Y_3.out.cell 3 (by rw [HSL.out]; decide)
  go_wp2_with fail
  refine (Two_arr #[.int .u8 (bv (g8 st 0)), .int .u8 (bv (g8 st 1)), .int .u8 (bv (g8 st 2)), .int .u8 (bv (g8 st 3))] _ _ _ key code st more (Bs_four st HSL.out) w3 K_3.out HKL.out C_3.out HCL.out HSL.out M_3.out (by rw [EM.out]; omega)).mono ?_
  rintro e w4 ⟨vQ, rfl, hO, hL⟩
  obtain ⟨AQ, cQ, rfl⟩ := hO.slB.form (ptwo_len _ _ _ _)
  have hM4 : Below N w w4 := below_more hM3 hL hs3
  have hs4 : N ≤ w4.heap.size := Nat.le_trans hs3 (hL).size
  have E_4 := Lib.hid (E_3.out.below hL)
  clear E_3
  have K_4 := Lib.hid (K_3.out.below hL)
  clear K_3
  have C_4 := Lib.hid (C_3.out.below hL)
  clear C_3
  have M_4 := Lib.hid (M_3.out.below hL)
  clear M_3
  have X_4 := Lib.hid (X_3.out.under hL)
  clear X_3
  have Y_4 := Lib.hid (Y_3.out.under hL)
  clear Y_3
  have MB_4 := Lib.hid (below_more MB_3.out hL MB_3.out.size)
  clear MB_3
  have P_4 := Lib.hid (P_3.out.below hL)
  clear P_3
  clear hM3 hs3
  have Q_4 := Lib.hid (hO.slB)
  clear hL hO
  clear cY0 cY1 cY2 cY3
  have cX0 := X_4.out.cell 0 (by rw [HAL.out]; decide)
  have cX1 := X_4.out.cell 1 (by rw [HAL.out]; decide)
  go_wp2_with fail
  generalize hww5 : w4.alloc _ = w5
  have hBw5 : Blk w5 w4.heap.size u8t [g8 ans 0, g8 ans 1, 0, 0, 0, 0, 0, 0] := by rw [← hww5]; exact heap_alloc_new w4 _
  have hL : Below w4.heap.size w4 w5 := by rw [← hww5]; exact below_alloc (Below.refl _ _) (Nat.le_refl _) _
  clear hww5
  have hM5 : Below N w w5 := below_more hM4 hL hs4
  have hs5 : N ≤ w5.heap.size := Nat.le_trans hs4 (hL).size
  have E_5 := Lib.hid (E_4.out.below hL)
  clear E_4
  have K_5 := Lib.hid (K_4.out.below hL)
  clear K_4
  have C_5 := Lib.hid (C_4.out.below hL)
  clear C_4
  have M_5 := Lib.hid (M_4.out.below hL)
  clear M_4
  have X_5 := Lib.hid (X_4.out.under hL)
  clear X_4
  have Y_5 := Lib.hid (Y_4.out.under hL)
  clear Y_4
  have MB_5 := Lib.hid (below_more MB_4.out hL MB_4.out.size)
  clear MB_4
  have P_5 := Lib.hid (P_4.out.below hL)
  clear P_4
  have Q_5 := Lib.hid (Q_4.out.below hL)
  clear Q_4
  clear hM4 hs4
  clear hL
  have T_5 := Lib.hid (hBw5.slB (n := 8) rfl (by decide))
  clear hBw5
  clear cX0 cX1
  refine (RXor_any _ _ code [g8 ans 0, g8 ans 1, 0, 0, 0, 0, 0, 0] w5 C_5.out T_5.out HCL.out (by rw [HCL.out]; decide)).mono ?_
  rintro e w6 ⟨vR, rfl, hO, hL⟩
  rw [HT2.out] at hO
  obtain ⟨AR, cR, rfl, hcR⟩ := hO.slB.formc (L := 8) (by rw [turn2_len, HCL.out])
  have hM6 : Below N w w6 := below_more hM5 hL hs5
  have hs6 : N ≤ w6.heap.size := Nat.le_trans hs5 (hL).size
  have E_6 := Lib.hid (E_5.out.below hL)
  clear E_5
  have K_6 := Lib.hid (K_5.out.below hL)
  clear K_5
  have C_6 := Lib.hid (C_5.out.below hL)
  clear C_5
  have M_6 := Lib.hid (M_5.out.below hL)
  clear M_5
  have X_6 := Lib.hid (X_5.out.under hL)
  clear X_5
  have Y_6 := Lib.hid (Y_5.out.under hL)
  clear Y_5
  have MB_6 := Lib.hid (below_more MB_5.out hL MB_5.out.size)
  clear MB_5
  have P_6 := Lib.hid (P_5.out.below hL)
  clear P_5
  have Q_6 := Lib.hid (Q_5.out.below hL)
  clear Q_5
  have T_6 := Lib.hid (T_5.out.below hL)
  clear T_5
  clear hM5 hs5
  have R_6 := Lib.hid (hO.slB)
  clear hL hO
  clear T_6
  go_wp2_with fail
  refine (rTriple_any false _ _ key (turn2 code ans) w6 K_6.out (.inl HKL.out) R_6.out (by rw [turn2_len, HCL.out])).mono ?_
  rintro e w7 ⟨vS, rfl, hO, hL⟩
  obtain ⟨AS, cS, rfl, hcS⟩ := hO.slB.formc (ptriple_len _ _ _)
  have hM7 : Below N w w7 := below_more hM6 hL hs6
  have hs7 : N ≤ w7.heap.size := Nat.le_trans hs6 (hL).size
  have E_7 := Lib.hid (E_6.out.below hL)
  clear E_6
  have K_7 := Lib.hid (K_6.out.below hL)
  clear K_6
  have C_7 := Lib.hid (C_6.out.below hL)
  clear C_6
  have M_7 := Lib.hid (M_6.out.below hL)
  clear M_6
  have X_7 := Lib.hid (X_6.out.under hL)
  clear X_6
  have Y_7 := Lib.hid (Y_6.out.under hL)
  clear Y_6
  have MB_7 := Lib.hid (below_more MB_6.out hL MB_6.out.size)
  clear MB_6
  have P_7 := Lib.hid (P_6.out.below hL)
  clear P_6
  have Q_7 := Lib.hid (Q_6.out.below hL)
  clear Q_6
  have R_7 := Lib.hid (R_6.out.below hL)
  clear R_6
  clear hM6 hs6
  have S_7 := Lib.hid (hO.slB)
  clear hL hO
  clear R_7
  go_wp2_with fail
  refine (Same_any _ _ (pone key code ans) (ptriple key (turn2 code ans) false) w7 P_7.out S_7.out (by rw [show (pone key code ans).length = 8 from ptriple_len _ _ _]; decide)).mono ?_
  rintro e w8 ⟨rfl, hD⟩
  rw [show (pone key code ans == ptriple key (turn2 code ans) false) = true from beq_self_eq_true _]
  have hM8 : Below N w w8 := below_more hM7 hD.below0 hs7
  have hs8 : N ≤ w8.heap.size := Nat.le_trans hs7 (hD.below0).size
  have E_8 := Lib.hid (E_7.out.below hD.below0)
  clear E_7
  have K_8 := Lib.hid (K_7.out.below hD.below0)
  clear K_7
  have C_8 := Lib.hid (C_7.out.below hD.below0)
  clear C_7
  have M_8 := Lib.hid (M_7.out.below hD.below0)
  clear M_7
  have X_8 := Lib.hid (X_7.out.under hD.below0)
  clear X_7
  have Y_8 := Lib.hid (Y_7.out.under hD.below0)
  clear Y_7
  have MB_8 := Lib.hid (below_more MB_7.out hD.below0 MB_7.out.size)
  clear MB_7
  have P_8 := Lib.hid (P_7.out.below hD.below0)
  clear P_7
  have Q_8 := Lib.hid (Q_7.out.below hD.below0)
  clear Q_7
  have S_8 := Lib.hid (S_7.out.below hD.below0)
  clear S_7
  clear hM7 hs7
  clear hD
  clear S_8
  clear P_8
  go_wp2_with fail
  obtain ⟨b, eb⟩ : ∃ b, w8.heap.size = b := ⟨_, rfl⟩
  have EB := Lib.hid eb
  have hdr : Below b w8 w8.drew := by rw [← eb]; exact below_drew _
  have HSB := Lib.hid (fun w9 (h9 : Below b w8 w9) => show b ≤ w9.heap.size by rw [← eb]; exact h9.size)
  have HUB := Lib.hid (fun w9 (h9 : Below b w8 w9) => show Below w8.heap.size w8 w9 by rw [eb]; exact h9)
  have HCB := Lib.hid (fun w9 (h9 : Below b w8 w9) => C_8.out.below (HUB.out w9 h9))
  have HMB := Lib.hid (fun w9 (h9 : Below b w8 w9) => M_8.out.below (HUB.out w9 h9))
  have HY0 := Lib.hid (fun w9 (h9 : Below b w8 w9) => (Y_8.out.under (HUB.out w9 h9)).cell 0 (by rw [HSL.out]; decide))
  have HY1 := Lib.hid (fun w9 (h9 : Below b w8 w9) => (Y_8.out.under (HUB.out w9 h9)).cell 1 (by rw [HSL.out]; decide))
  have HY2 := Lib.hid (fun w9 (h9 : Below b w8 w9) => (Y_8.out.under (HUB.out w9 h9)).cell 2 (by rw [HSL.out]; decide))
  have HY3 := Lib.hid (fun w9 (h9 : Below b w8 w9) => (Y_8.out.under (HUB.out w9 h9)).cell 3 (by rw [HSL.out]; decide))
  clear eb
  refine wp_region_held (S := fun w9 => Below b w8 w9) (by kernel_rfl) ?_
  show wpAnyH _ _ _ _ _ _ _ _ w8.drew
  obtain ⟨v0, ev0⟩ : ∃ v0, w8.drew = v0 := ⟨_, rfl⟩
  rw [ev0] at hdr ⊢
  refine wpAnyH_take (i := 1) rfl (by kernel_rfl) (by kernel_rfl) (by kernel_rfl) (fun _ _ _ h => h) (yields_val (by kernel_rfl) (.slice B 8 d) (fun w => by kernel_rfl)) hdr ?_
  refine wpAnyH_take (i := 3) rfl (by kernel_rfl) (by kernel_rfl) (by kernel_rfl) (fun _ _ _ h => h) (yields_val (by kernel_rfl) (.pointer (some ⟨N + 1, 0, none⟩)) (fun w => by kernel_rfl)) hdr ?_
  refine wpAnyH_take (i := 4) rfl (by kernel_rfl) (by kernel_rfl) (by kernel_rfl) (fun _ _ _ h => h) (yields_cell (by kernel_rfl) (.int .u8 (bv (g8 st 0))) 5 _ rfl ⟨N + 1, 0, none⟩ (by kernel_rfl) (fun w h => load_u8A w _ _ h) (fun w9 h9 => HY0.out w9 h9)) hdr ?_
  refine wpAnyH_take (i := 5) rfl (by kernel_rfl) (by kernel_rfl) (by kernel_rfl) (fun _ _ _ h => h) (yields_val (by kernel_rfl) (.pointer (some ⟨N + 1, 1, none⟩)) (fun w => by kernel_rfl)) hdr ?_
  refine wpAnyH_take (i := 6) rfl (by kernel_rfl) (by kernel_rfl) (by kernel_rfl) (fun _ _ _ h => h) (yields_cell (by kernel_rfl) (.int .u8 (bv (g8 st 1))) 5 _ rfl ⟨N + 1, 1, none⟩ (by kernel_rfl) (fun w h => load_u8A w _ _ h) (fun w9 h9 => HY1.out w9 h9)) hdr ?_
  refine wpAnyH_take (i := 7) rfl (by kernel_rfl) (by kernel_rfl) (by kernel_rfl) (fun _ _ _ h => h) (yields_val (by kernel_rfl) (.pointer (some ⟨N + 1, 2, none⟩)) (fun w => by kernel_rfl)) hdr ?_
  refine wpAnyH_take (i := 8) rfl (by kernel_rfl) (by kernel_rfl) (by kernel_rfl) (fun _ _ _ h => h) (yields_cell (by kernel_rfl) (.int .u8 (bv (g8 st 2))) 5 _ rfl ⟨N + 1, 2, none⟩ (by kernel_rfl) (fun w h => load_u8A w _ _ h) (fun w9 h9 => HY2.out w9 h9)) hdr ?_
  refine wpAnyH_take (i := 9) rfl (by kernel_rfl) (by kernel_rfl) (by kernel_rfl) (fun _ _ _ h => h) (yields_val (by kernel_rfl) (.pointer (some ⟨N + 1, 3, none⟩)) (fun w => by kernel_rfl)) hdr ?_
  refine wpAnyH_take (i := 10) rfl (by kernel_rfl) (by kernel_rfl) (by kernel_rfl) (fun _ _ _ h => h) (yields_cell (by kernel_rfl) (.int .u8 (bv (g8 st 3))) 5 _ rfl ⟨N + 1, 3, none⟩ (by kernel_rfl) (fun w h => load_u8A w _ _ h) (fun w9 h9 => HY3.out w9 h9)) hdr ?_
  refine wpAnyH_take (i := 13) rfl (by kernel_rfl) (by kernel_rfl) (by kernel_rfl) (fun _ _ _ h => h) (yields_val (by kernel_rfl) (.slice C M e9) (fun w => by kernel_rfl)) hdr ?_
  refine wpAnyH_all (rs := [0, 11]) (by kernel_rfl) (by decide) ?_
  intro i0 hi0
  simp only [List.mem_cons, List.not_mem_nil, or_false] at hi0
  rcases hi0 with rfl | rfl
  · refine wpOp_run rfl (by kernel_rfl) (.slice (some ⟨v0.heap.size, 0, none⟩) 0 0) (v0.alloc (.cells #[] u8t)) (by kernel_rfl) ?_
    have hbx1 : Below b w8 (v0.alloc (.cells #[] u8t)) := below_alloc hdr (HSB.out _ hdr) _
    have ho0 : Own (v0.alloc (.cells #[] u8t)) b (.slice (some ⟨v0.heap.size, 0, none⟩) 0 0) [] := own_lit0 v0 b (HSB.out _ hdr)
    obtain ⟨gx1, egx1⟩ : ∃ g, v0.heap.size = g := ⟨_, rfl⟩
    rw [egx1] at ho0 ⊢
    generalize v0.alloc _ = x1 at hbx1 ho0 ⊢
    refine ⟨hbx1, ?_⟩
    refine wpAnyH_all (rs := [2, 11]) (by kernel_rfl) (by decide) ?_
    intro i1 hi1
    simp only [List.mem_cons, List.not_mem_nil, or_false] at hi1
    rcases hi1 with rfl | rfl
    · refine wpOp_appendE rfl (by kernel_rfl) hu_sl hu_u8 _ _ rfl b _ [] (by kernel_rfl) ho0 _ code (by kernel_rfl) (HCB.out _ hbx1) (by simp [HCL.out]) (HSB.out _ hbx1) ?_
      intro yx2 x2 hox2 hGx2
      have hbx2 : Below b w8 x2 := below_own hbx1 (HSB.out _ hbx1) hGx2 (fun k hk => (ho0.lt k hk).1)
      refine ⟨hbx2, ?_⟩
      refine wpAnyH_all (rs := [11]) (by kernel_rfl) (by decide) ?_
      intro i2 hi2
      obtain rfl : i2 = 11 := by simpa using hi2
      refine wpOp_run rfl (by kernel_rfl) (.slice (some ⟨x2.heap.size, 0, none⟩) 4 4) (x2.alloc (.cells (Bs [g8 st 0, g8 st 1, g8 st 2, g8 st 3]) u8t)) (by kernel_rfl) ?_
      have hbx3 : Below b w8 (x2.alloc (.cells (Bs [g8 st 0, g8 st 1, g8 st 2, g8 st 3]) u8t)) := below_alloc hbx2 (HSB.out _ hbx2) _
      have hs11 : SlB (x2.alloc (.cells (Bs [g8 st 0, g8 st 1, g8 st 2, g8 st 3]) u8t)) (.slice (some ⟨x2.heap.size, 0, none⟩) 4 4) [g8 st 0, g8 st 1, g8 st 2, g8 st 3] := lit_slB x2 [g8 st 0, g8 st 1, g8 st 2, g8 st 3] 4 rfl (by decide)
      have hlt11 : x2.heap.size < (x2.alloc (.cells (Bs [g8 st 0, g8 st 1, g8 st 2, g8 st 3]) u8t)).heap.size := by show _ < (x2.heap.push _).size; simp
      have hoz := Own.alloc hox2 (.cells (Bs [g8 st 0, g8 st 1, g8 st 2, g8 st 3]) u8t)
      have hlt := fun k hk => (hox2.lt k hk).2
      clear hox2
      obtain ⟨gx3, egx3⟩ : ∃ g, x2.heap.size = g := ⟨_, rfl⟩
      rw [egx3] at hs11 hlt11 hlt ⊢
      generalize x2.alloc _ = x3 at hbx3 hs11 hlt11 hoz ⊢
      refine ⟨hbx3, ?_⟩
      refine wpAnyH_all (rs := [12]) (by kernel_rfl) (by decide) ?_
      intro i3 hi3
      obtain rfl : i3 = 12 := by simpa using hi3
      refine wpOp_appendE rfl (by kernel_rfl) hu_sl hu_u8 _ _ rfl b _ ([] ++ code) (by kernel_rfl) hoz _ [g8 st 0, g8 st 1, g8 st 2, g8 st 3] (by kernel_rfl) hs11 (by simp [HCL.out]) (HSB.out _ hbx3) ?_
      intro yx4 x4 hox4 hGx4
      have hbx4 : Below b w8 x4 := below_own hbx3 (HSB.out _ hbx3) hGx4 (fun k hk => (hoz.lt k hk).1)
      refine ⟨hbx4, ?_⟩
      refine wpAnyH_all (rs := [14]) (by kernel_rfl) (by decide) ?_
      intro i4 hi4
      obtain rfl : i4 = 14 := by simpa using hi4
      refine wpOp_appendE rfl (by kernel_rfl) hu_sl hu_u8 _ _ rfl b _ ([] ++ code ++ [g8 st 0, g8 st 1, g8 st 2, g8 st 3]) (by kernel_rfl) hox4 _ more (by kernel_rfl) (HMB.out _ hbx4) (by have := EM.out; simp [HCL.out]; omega) (HSB.out _ hbx4) ?_
      intro yx5 x5 hox5 hGx5
      have hbx5 : Below b w8 x5 := below_own hbx4 (HSB.out _ hbx4) hGx5 (fun k hk => (hox4.lt k hk).1)
      refine ⟨hbx5, ?_⟩
      refine wpAnyH_take (i := 15) rfl (by kernel_rfl) (by kernel_rfl) (by kernel_rfl) (fun _ _ _ h => h) (yields_val (by kernel_rfl) (yx5) (fun w => by kernel_rfl)) hbx5 ?_
      refine wpAnyH_done (by kernel_rfl) ?_ _
      simp only [Act.put, List.getElem_toArray, List.getElem_cons_succ, List.getElem_cons_zero, List.setIfInBounds_toArray, List.set_cons_succ, List.set_cons_zero]
      have hall : ([] ++ code ++ [g8 st 0, g8 st 1, g8 st 2, g8 st 3] ++ more) = code ++ st ++ more := by rw [List.nil_append, four_list st HSL.out]
      rw [hall] at hox5
      have hL := HUB.out _ hbx5
      have hsA := hox5.slB
      have HLN := Lib.hid (show (code ++ st ++ more).length ≤ 1000 by rw [List.length_append, List.length_append, HCL.out, HSL.out, EM.out]; omega)
      obtain ⟨LA, eLA⟩ : ∃ n, (code ++ st ++ more).length = n := ⟨_, rfl⟩
      obtain ⟨AA, cA, eA, _⟩ := hsA.formc eLA
      subst eA
      clear hox5
      have hM9 : Below N w x5 := below_more hM8 hL hs8
      have hs9 : N ≤ x5.heap.size := Nat.le_trans hs8 (hL).size
      have E_9 := Lib.hid (E_8.out.below hL)
      clear E_8
      have K_9 := Lib.hid (K_8.out.below hL)
      clear K_8
      have C_9 := Lib.hid (C_8.out.below hL)
      clear C_8
      have M_9 := Lib.hid (M_8.out.below hL)
      clear M_8
      have X_9 := Lib.hid (X_8.out.under hL)
      clear X_8
      have Y_9 := Lib.hid (Y_8.out.under hL)
      clear Y_8
      have MB_9 := Lib.hid (below_more MB_8.out hL MB_8.out.size)
      clear MB_8
      have Q_9 := Lib.hid (Q_8.out.below hL)
      clear Q_8
      clear hM8 hs8
      have A_9 := Lib.hid (hsA)
      clear hL hsA
      go_wp2_with fail
      refine (rRetail_any _ _ key (code ++ st ++ more) x5 K_9.out HKL.out A_9.out HLN.out).mono ?_
      rintro e w10 ⟨vZ, rfl, hO, hL⟩
      obtain ⟨gZ, cZ, rfl, _, _, _, _, hcZ⟩ := hO.form (by rw [pretail_len]; decide)
      rw [pretail_len] at hO hcZ ⊢
      have hM10 : Below N w w10 := below_more hM9 hL hs9
      have hs10 : N ≤ w10.heap.size := Nat.le_trans hs9 (hL).size
      have E_10 := Lib.hid (E_9.out.below hL)
      clear E_9
      have K_10 := Lib.hid (K_9.out.below hL)
      clear K_9
      have C_10 := Lib.hid (C_9.out.below hL)
      clear C_9
      have M_10 := Lib.hid (M_9.out.below hL)
      clear M_9
      have X_10 := Lib.hid (X_9.out.under hL)
      clear X_9
      have Y_10 := Lib.hid (Y_9.out.under hL)
      clear Y_9
      have MB_10 := Lib.hid (below_more MB_9.out hL MB_9.out.size)
      clear MB_9
      have Q_10 := Lib.hid (Q_9.out.below hL)
      clear Q_9
      have A_10 := Lib.hid (A_9.out.below hL)
      clear A_9
      clear hM9 hs9
      have Z_10 := Lib.hid (hO)
      clear hL hO
      go_wp2_with fail
      refine (Same_any _ _ (ptwo key code st more) ((pretail key (code ++ st ++ more)).take 4) w10 Q_10.out (Z_10.out.slB.take (n := 4) (by rw [pretail_len]; decide)) (by rw [ptwo_len]; decide)).mono ?_
      rintro e w11 ⟨rfl, hD⟩
      rw [show (ptwo key code st more == (pretail key (code ++ st ++ more)).take 4) = true from beq_self_eq_true _]
      have hM11 : Below N w w11 := below_more hM10 hD.below0 hs10
      have hs11 : N ≤ w11.heap.size := Nat.le_trans hs10 (hD.below0).size
      have E_11 := Lib.hid (E_10.out.below hD.below0)
      clear E_10
      have K_11 := Lib.hid (K_10.out.below hD.below0)
      clear K_10
      have C_11 := Lib.hid (C_10.out.below hD.below0)
      clear C_10
      have M_11 := Lib.hid (M_10.out.below hD.below0)
      clear M_10
      have X_11 := Lib.hid (X_10.out.under hD.below0)
      clear X_10
      have Y_11 := Lib.hid (Y_10.out.under hD.below0)
      clear Y_10
      have MB_11 := Lib.hid (below_more MB_10.out hD.below0 MB_10.out.size)
      clear MB_10
      have Q_11 := Lib.hid (Q_10.out.below hD.below0)
      clear Q_10
      have A_11 := Lib.hid (A_10.out.below hD.below0)
      clear A_10
      have Z_11 := Lib.hid (Z_10.out.under hD.below0)
      clear Z_10
      clear hM10 hs10
      clear hD
      go_wp2_with fail
      go_ret
      exact ⟨rfl, by rw [HN.out]; exact hM11⟩
    · refine wpOp_run rfl (by kernel_rfl) (.slice (some ⟨x1.heap.size, 0, none⟩) 4 4) (x1.alloc (.cells (Bs [g8 st 0, g8 st 1, g8 st 2, g8 st 3]) u8t)) (by kernel_rfl) ?_
      have hbx2 : Below b w8 (x1.alloc (.cells (Bs [g8 st 0, g8 st 1, g8 st 2, g8 st 3]) u8t)) := below_alloc hbx1 (HSB.out _ hbx1) _
      have hs11 : SlB (x1.alloc (.cells (Bs [g8 st 0, g8 st 1, g8 st 2, g8 st 3]) u8t)) (.slice (some ⟨x1.heap.size, 0, none⟩) 4 4) [g8 st 0, g8 st 1, g8 st 2, g8 st 3] := lit_slB x1 [g8 st 0, g8 st 1, g8 st 2, g8 st 3] 4 rfl (by decide)
      have hlt11 : x1.heap.size < (x1.alloc (.cells (Bs [g8 st 0, g8 st 1, g8 st 2, g8 st 3]) u8t)).heap.size := by show _ < (x1.heap.push _).size; simp
      have hoz := Own.alloc ho0 (.cells (Bs [g8 st 0, g8 st 1, g8 st 2, g8 st 3]) u8t)
      have hlt := fun k hk => (ho0.lt k hk).2
      clear ho0
      obtain ⟨gx2, egx2⟩ : ∃ g, x1.heap.size = g := ⟨_, rfl⟩
      rw [egx2] at hs11 hlt11 hlt ⊢
      have hne2 : gx1 < gx2 := hlt _ rfl
      generalize x1.alloc _ = x2 at hbx2 hs11 hlt11 hoz ⊢
      refine ⟨hbx2, ?_⟩
      refine wpAnyH_all (rs := [2]) (by kernel_rfl) (by decide) ?_
      intro i5 hi5
      obtain rfl : i5 = 2 := by simpa using hi5
      refine wpOp_appendE rfl (by kernel_rfl) hu_sl hu_u8 _ _ rfl b _ [] (by kernel_rfl) hoz _ code (by kernel_rfl) (HCB.out _ hbx2) (by simp [HCL.out]) (HSB.out _ hbx2) ?_
      intro yx3 x3 hox3 hGx3
      have hbx3 : Below b w8 x3 := below_own hbx2 (HSB.out _ hbx2) hGx3 (fun k hk => (hoz.lt k hk).1)
      have hs12 := hs11.old hGx3 (.inr (by simp [Value.ownBlock]; omega))
      clear hs11
      have hs11 := hs12
      clear hs12
      refine ⟨hbx3, ?_⟩
      refine wpAnyH_all (rs := [12]) (by kernel_rfl) (by decide) ?_
      intro i6 hi6
      obtain rfl : i6 = 12 := by simpa using hi6
      refine wpOp_appendE rfl (by kernel_rfl) hu_sl hu_u8 _ _ rfl b _ ([] ++ code) (by kernel_rfl) hox3 _ [g8 st 0, g8 st 1, g8 st 2, g8 st 3] (by kernel_rfl) hs11 (by simp [HCL.out]) (HSB.out _ hbx3) ?_
      intro yx4 x4 hox4 hGx4
      have hbx4 : Below b w8 x4 := below_own hbx3 (HSB.out _ hbx3) hGx4 (fun k hk => (hox3.lt k hk).1)
      refine ⟨hbx4, ?_⟩
      refine wpAnyH_all (rs := [14]) (by kernel_rfl) (by decide) ?_
      intro i7 hi7
      obtain rfl : i7 = 14 := by simpa using hi7
      refine wpOp_appendE rfl (by kernel_rfl) hu_sl hu_u8 _ _ rfl b _ ([] ++ code ++ [g8 st 0, g8 st 1, g8 st 2, g8 st 3]) (by kernel_rfl) hox4 _ more (by kernel_rfl) (HMB.out _ hbx4) (by have := EM.out; simp [HCL.out]; omega) (HSB.out _ hbx4) ?_
      intro yx5 x5 hox5 hGx5
      have hbx5 : Below b w8 x5 := below_own hbx4 (HSB.out _ hbx4) hGx5 (fun k hk => (hox4.lt k hk).1)
      refine ⟨hbx5, ?_⟩
      refine wpAnyH_take (i := 15) rfl (by kernel_rfl) (by kernel_rfl) (by kernel_rfl) (fun _ _ _ h => h) (yields_val (by kernel_rfl) (yx5) (fun w => by kernel_rfl)) hbx5 ?_
      refine wpAnyH_done (by kernel_rfl) ?_ _
      simp only [Act.put, List.getElem_toArray, List.getElem_cons_succ, List.getElem_cons_zero, List.setIfInBounds_toArray, List.set_cons_succ, List.set_cons_zero]
      have hall : ([] ++ code ++ [g8 st 0, g8 st 1, g8 st 2, g8 st 3] ++ more) = code ++ st ++ more := by rw [List.nil_append, four_list st HSL.out]
      rw [hall] at hox5
      have hL := HUB.out _ hbx5
      have hsA := hox5.slB
      have HLN := Lib.hid (show (code ++ st ++ more).length ≤ 1000 by rw [List.length_append, List.length_append, HCL.out, HSL.out, EM.out]; omega)
      obtain ⟨LA, eLA⟩ : ∃ n, (code ++ st ++ more).length = n := ⟨_, rfl⟩
      obtain ⟨AA, cA, eA, _⟩ := hsA.formc eLA
      subst eA
      clear hox5
      have hM9 : Below N w x5 := below_more hM8 hL hs8
      have hs9 : N ≤ x5.heap.size := Nat.le_trans hs8 (hL).size
      have E_9 := Lib.hid (E_8.out.below hL)
      clear E_8
      have K_9 := Lib.hid (K_8.out.below hL)
      clear K_8
      have C_9 := Lib.hid (C_8.out.below hL)
      clear C_8
      have M_9 := Lib.hid (M_8.out.below hL)
      clear M_8
      have X_9 := Lib.hid (X_8.out.under hL)
      clear X_8
      have Y_9 := Lib.hid (Y_8.out.under hL)
      clear Y_8
      have MB_9 := Lib.hid (below_more MB_8.out hL MB_8.out.size)
      clear MB_8
      have Q_9 := Lib.hid (Q_8.out.below hL)
      clear Q_8
      clear hM8 hs8
      have A_9 := Lib.hid (hsA)
      clear hL hsA
      go_wp2_with fail
      refine (rRetail_any _ _ key (code ++ st ++ more) x5 K_9.out HKL.out A_9.out HLN.out).mono ?_
      rintro e w10 ⟨vZ, rfl, hO, hL⟩
      obtain ⟨gZ, cZ, rfl, _, _, _, _, hcZ⟩ := hO.form (by rw [pretail_len]; decide)
      rw [pretail_len] at hO hcZ ⊢
      have hM10 : Below N w w10 := below_more hM9 hL hs9
      have hs10 : N ≤ w10.heap.size := Nat.le_trans hs9 (hL).size
      have E_10 := Lib.hid (E_9.out.below hL)
      clear E_9
      have K_10 := Lib.hid (K_9.out.below hL)
      clear K_9
      have C_10 := Lib.hid (C_9.out.below hL)
      clear C_9
      have M_10 := Lib.hid (M_9.out.below hL)
      clear M_9
      have X_10 := Lib.hid (X_9.out.under hL)
      clear X_9
      have Y_10 := Lib.hid (Y_9.out.under hL)
      clear Y_9
      have MB_10 := Lib.hid (below_more MB_9.out hL MB_9.out.size)
      clear MB_9
      have Q_10 := Lib.hid (Q_9.out.below hL)
      clear Q_9
      have A_10 := Lib.hid (A_9.out.below hL)
      clear A_9
      clear hM9 hs9
      have Z_10 := Lib.hid (hO)
      clear hL hO
      go_wp2_with fail
      refine (Same_any _ _ (ptwo key code st more) ((pretail key (code ++ st ++ more)).take 4) w10 Q_10.out (Z_10.out.slB.take (n := 4) (by rw [pretail_len]; decide)) (by rw [ptwo_len]; decide)).mono ?_
      rintro e w11 ⟨rfl, hD⟩
      rw [show (ptwo key code st more == (pretail key (code ++ st ++ more)).take 4) = true from beq_self_eq_true _]
      have hM11 : Below N w w11 := below_more hM10 hD.below0 hs10
      have hs11 : N ≤ w11.heap.size := Nat.le_trans hs10 (hD.below0).size
      have E_11 := Lib.hid (E_10.out.below hD.below0)
      clear E_10
      have K_11 := Lib.hid (K_10.out.below hD.below0)
      clear K_10
      have C_11 := Lib.hid (C_10.out.below hD.below0)
      clear C_10
      have M_11 := Lib.hid (M_10.out.below hD.below0)
      clear M_10
      have X_11 := Lib.hid (X_10.out.under hD.below0)
      clear X_10
      have Y_11 := Lib.hid (Y_10.out.under hD.below0)
      clear Y_10
      have MB_11 := Lib.hid (below_more MB_10.out hD.below0 MB_10.out.size)
      clear MB_10
      have Q_11 := Lib.hid (Q_10.out.below hD.below0)
      clear Q_10
      have A_11 := Lib.hid (A_10.out.below hD.below0)
      clear A_10
      have Z_11 := Lib.hid (Z_10.out.under hD.below0)
      clear Z_10
      clear hM10 hs10
      clear hD
      go_wp2_with fail
      go_ret
      exact ⟨rfl, by rw [HN.out]; exact hM11⟩
  · refine wpOp_run rfl (by kernel_rfl) (.slice (some ⟨v0.heap.size, 0, none⟩) 4 4) (v0.alloc (.cells (Bs [g8 st 0, g8 st 1, g8 st 2, g8 st 3]) u8t)) (by kernel_rfl) ?_
    have hbx1 : Below b w8 (v0.alloc (.cells (Bs [g8 st 0, g8 st 1, g8 st 2, g8 st 3]) u8t)) := below_alloc hdr (HSB.out _ hdr) _
    have hs11 : SlB (v0.alloc (.cells (Bs [g8 st 0, g8 st 1, g8 st 2, g8 st 3]) u8t)) (.slice (some ⟨v0.heap.size, 0, none⟩) 4 4) [g8 st 0, g8 st 1, g8 st 2, g8 st 3] := lit_slB v0 [g8 st 0, g8 st 1, g8 st 2, g8 st 3] 4 rfl (by decide)
    have hlt11 : v0.heap.size < (v0.alloc (.cells (Bs [g8 st 0, g8 st 1, g8 st 2, g8 st 3]) u8t)).heap.size := by show _ < (v0.heap.push _).size; simp
    obtain ⟨gx1, egx1⟩ : ∃ g, v0.heap.size = g := ⟨_, rfl⟩
    rw [egx1] at hs11 hlt11 ⊢
    generalize v0.alloc _ = x1 at hbx1 hs11 hlt11 ⊢
    refine ⟨hbx1, ?_⟩
    refine wpAnyH_all (rs := [0]) (by kernel_rfl) (by decide) ?_
    intro i8 hi8
    obtain rfl : i8 = 0 := by simpa using hi8
    refine wpOp_run rfl (by kernel_rfl) (.slice (some ⟨x1.heap.size, 0, none⟩) 0 0) (x1.alloc (.cells #[] u8t)) (by kernel_rfl) ?_
    have hbx2 : Below b w8 (x1.alloc (.cells #[] u8t)) := below_alloc hbx1 (HSB.out _ hbx1) _
    have ho0 : Own (x1.alloc (.cells #[] u8t)) b (.slice (some ⟨x1.heap.size, 0, none⟩) 0 0) [] := own_lit0 x1 b (HSB.out _ hbx1)
    have hs12 := hs11.alloc (.cells #[] u8t)
    clear hs11
    have hs11 := hs12
    clear hs12
    have hne : (gx1 : Nat) ≠ x1.heap.size := Nat.ne_of_lt hlt11
    obtain ⟨gx2, egx2⟩ : ∃ g, x1.heap.size = g := ⟨_, rfl⟩
    rw [egx2] at ho0 hne ⊢
    generalize x1.alloc _ = x2 at hbx2 ho0 hs11 ⊢
    refine ⟨hbx2, ?_⟩
    refine wpAnyH_all (rs := [2]) (by kernel_rfl) (by decide) ?_
    intro i9 hi9
    obtain rfl : i9 = 2 := by simpa using hi9
    refine wpOp_appendE rfl (by kernel_rfl) hu_sl hu_u8 _ _ rfl b _ [] (by kernel_rfl) ho0 _ code (by kernel_rfl) (HCB.out _ hbx2) (by simp [HCL.out]) (HSB.out _ hbx2) ?_
    intro yx3 x3 hox3 hGx3
    have hbx3 : Below b w8 x3 := below_own hbx2 (HSB.out _ hbx2) hGx3 (fun k hk => (ho0.lt k hk).1)
    have hs12 := hs11.old hGx3 (.inr (by simp [Value.ownBlock]; omega))
    clear hs11
    have hs11 := hs12
    clear hs12
    refine ⟨hbx3, ?_⟩
    refine wpAnyH_all (rs := [12]) (by kernel_rfl) (by decide) ?_
    intro i10 hi10
    obtain rfl : i10 = 12 := by simpa using hi10
    refine wpOp_appendE rfl (by kernel_rfl) hu_sl hu_u8 _ _ rfl b _ ([] ++ code) (by kernel_rfl) hox3 _ [g8 st 0, g8 st 1, g8 st 2, g8 st 3] (by kernel_rfl) hs11 (by simp [HCL.out]) (HSB.out _ hbx3) ?_
    intro yx4 x4 hox4 hGx4
    have hbx4 : Below b w8 x4 := below_own hbx3 (HSB.out _ hbx3) hGx4 (fun k hk => (hox3.lt k hk).1)
    refine ⟨hbx4, ?_⟩
    refine wpAnyH_all (rs := [14]) (by kernel_rfl) (by decide) ?_
    intro i11 hi11
    obtain rfl : i11 = 14 := by simpa using hi11
    refine wpOp_appendE rfl (by kernel_rfl) hu_sl hu_u8 _ _ rfl b _ ([] ++ code ++ [g8 st 0, g8 st 1, g8 st 2, g8 st 3]) (by kernel_rfl) hox4 _ more (by kernel_rfl) (HMB.out _ hbx4) (by have := EM.out; simp [HCL.out]; omega) (HSB.out _ hbx4) ?_
    intro yx5 x5 hox5 hGx5
    have hbx5 : Below b w8 x5 := below_own hbx4 (HSB.out _ hbx4) hGx5 (fun k hk => (hox4.lt k hk).1)
    refine ⟨hbx5, ?_⟩
    refine wpAnyH_take (i := 15) rfl (by kernel_rfl) (by kernel_rfl) (by kernel_rfl) (fun _ _ _ h => h) (yields_val (by kernel_rfl) (yx5) (fun w => by kernel_rfl)) hbx5 ?_
    refine wpAnyH_done (by kernel_rfl) ?_ _
    simp only [Act.put, List.getElem_toArray, List.getElem_cons_succ, List.getElem_cons_zero, List.setIfInBounds_toArray, List.set_cons_succ, List.set_cons_zero]
    have hall : ([] ++ code ++ [g8 st 0, g8 st 1, g8 st 2, g8 st 3] ++ more) = code ++ st ++ more := by rw [List.nil_append, four_list st HSL.out]
    rw [hall] at hox5
    have hL := HUB.out _ hbx5
    have hsA := hox5.slB
    have HLN := Lib.hid (show (code ++ st ++ more).length ≤ 1000 by rw [List.length_append, List.length_append, HCL.out, HSL.out, EM.out]; omega)
    obtain ⟨LA, eLA⟩ : ∃ n, (code ++ st ++ more).length = n := ⟨_, rfl⟩
    obtain ⟨AA, cA, eA, _⟩ := hsA.formc eLA
    subst eA
    clear hox5
    have hM9 : Below N w x5 := below_more hM8 hL hs8
    have hs9 : N ≤ x5.heap.size := Nat.le_trans hs8 (hL).size
    have E_9 := Lib.hid (E_8.out.below hL)
    clear E_8
    have K_9 := Lib.hid (K_8.out.below hL)
    clear K_8
    have C_9 := Lib.hid (C_8.out.below hL)
    clear C_8
    have M_9 := Lib.hid (M_8.out.below hL)
    clear M_8
    have X_9 := Lib.hid (X_8.out.under hL)
    clear X_8
    have Y_9 := Lib.hid (Y_8.out.under hL)
    clear Y_8
    have MB_9 := Lib.hid (below_more MB_8.out hL MB_8.out.size)
    clear MB_8
    have Q_9 := Lib.hid (Q_8.out.below hL)
    clear Q_8
    clear hM8 hs8
    have A_9 := Lib.hid (hsA)
    clear hL hsA
    go_wp2_with fail
    refine (rRetail_any _ _ key (code ++ st ++ more) x5 K_9.out HKL.out A_9.out HLN.out).mono ?_
    rintro e w10 ⟨vZ, rfl, hO, hL⟩
    obtain ⟨gZ, cZ, rfl, _, _, _, _, hcZ⟩ := hO.form (by rw [pretail_len]; decide)
    rw [pretail_len] at hO hcZ ⊢
    have hM10 : Below N w w10 := below_more hM9 hL hs9
    have hs10 : N ≤ w10.heap.size := Nat.le_trans hs9 (hL).size
    have E_10 := Lib.hid (E_9.out.below hL)
    clear E_9
    have K_10 := Lib.hid (K_9.out.below hL)
    clear K_9
    have C_10 := Lib.hid (C_9.out.below hL)
    clear C_9
    have M_10 := Lib.hid (M_9.out.below hL)
    clear M_9
    have X_10 := Lib.hid (X_9.out.under hL)
    clear X_9
    have Y_10 := Lib.hid (Y_9.out.under hL)
    clear Y_9
    have MB_10 := Lib.hid (below_more MB_9.out hL MB_9.out.size)
    clear MB_9
    have Q_10 := Lib.hid (Q_9.out.below hL)
    clear Q_9
    have A_10 := Lib.hid (A_9.out.below hL)
    clear A_9
    clear hM9 hs9
    have Z_10 := Lib.hid (hO)
    clear hL hO
    go_wp2_with fail
    refine (Same_any _ _ (ptwo key code st more) ((pretail key (code ++ st ++ more)).take 4) w10 Q_10.out (Z_10.out.slB.take (n := 4) (by rw [pretail_len]; decide)) (by rw [ptwo_len]; decide)).mono ?_
    rintro e w11 ⟨rfl, hD⟩
    rw [show (ptwo key code st more == (pretail key (code ++ st ++ more)).take 4) = true from beq_self_eq_true _]
    have hM11 : Below N w w11 := below_more hM10 hD.below0 hs10
    have hs11 : N ≤ w11.heap.size := Nat.le_trans hs10 (hD.below0).size
    have E_11 := Lib.hid (E_10.out.below hD.below0)
    clear E_10
    have K_11 := Lib.hid (K_10.out.below hD.below0)
    clear K_10
    have C_11 := Lib.hid (C_10.out.below hD.below0)
    clear C_10
    have M_11 := Lib.hid (M_10.out.below hD.below0)
    clear M_10
    have X_11 := Lib.hid (X_10.out.under hD.below0)
    clear X_10
    have Y_11 := Lib.hid (Y_10.out.under hD.below0)
    clear Y_10
    have MB_11 := Lib.hid (below_more MB_10.out hD.below0 MB_10.out.size)
    clear MB_10
    have Q_11 := Lib.hid (Q_10.out.below hD.below0)
    clear Q_10
    have A_11 := Lib.hid (A_10.out.below hD.below0)
    clear A_10
    have Z_11 := Lib.hid (Z_10.out.under hD.below0)
    clear Z_10
    clear hM10 hs10
    clear hD
    go_wp2_with fail
    go_ret
    exact ⟨rfl, by rw [HN.out]; exact hM11⟩
theorem ArqcAnswers_any (vk : Value) (key : List UInt8) (vc : Value) (code : List UInt8) (ans st : List UInt8) (vm : Value) (more : List UInt8) (w : World) (hE : Et w) (hk : SlB w vk key) (hc : SlB w vc code) (hal : ans.length = 2) (hsl : st.length = 4) (hm : SlB w vm more) : Calls Tryd.prog 9 #[vk, vc, .agg (Bs ans), .agg (Bs st), vm] w fun e w' => e = .returned (.bool true) ∧ Below w.heap.size w w' := by
  by_cases h1 : key.length ≤ 100
  · by_cases h2 : code.length ≤ 100
    · by_cases h3 : more.length ≤ 100
      · by_cases h4 : key.length = 16
        · by_cases h5 : code.length = 8
          · by_cases h6 : more.length ≤ 8
            · exact AA_ok vk key vc code ans st vm more w hE hk hc hal hsl hm h1 h2 h3 h4 h5 h6
            · exact AA_m vk key vc code ans st vm more w hE hk hc hal hsl hm h1 h2 h3 h4 h5 (by omega)
          · exact AA_b2 vk key vc code ans st vm more w hE hk hc hal hsl hm h1 h2 h3 h4 h5
        · exact AA_b1 vk key vc code ans st vm more w hE hk hc hal hsl hm h1 h2 h3 h4
      · exact AA_fm vk key vc code ans st vm more w hE hk hc hal hsl hm h1 h2 h3
    · exact AA_fc vk key vc code ans st vm more w hE hk hc hal hsl hm h1 h2
  · exact AA_fk vk key vc code ans st vm more w hE hk hc hal hsl hm h1
end Go.Proofs.YtidgmokbkepcdaaDoor
set_option linter.unusedVariables false
set_option linter.unusedSimpArgs false
namespace Lk
open Go Go.RowKit
/-- a slice of whole numbers as it is read -/
def IsRow (k : IntKind) (w : World) (a : Option Addr) (len cap : Nat) (zs : List Int) : Prop :=
  (a = none ∧ len = 0 ∧ cap = 0 ∧ zs = []) ∨
  ∃ x, a = some x ∧ len ≤ cap ∧ cap ≤ maxLen ∧ zs.length = cap ∧ (∀ i, i < zs.length → w.cell? (x.add i) = some (.int k (zs.getD i 0))) ∧ ∀ n ∈ zs, (Lit.int k n).wf = true
theorem u8_of_wf {n : Int} (h : (Lit.int .u8 n).wf = true) : n = bv (UInt8.ofNat n.toNat) := by
  obtain ⟨a, rfl⟩ := open_u8 h
  unfold bv
  simp
theorem slB_of_row {w : World} {a : Option Addr} {len cap : Nat} {zs : List Int} (h : IsRow .u8 w a len cap zs) : ∃ l : List UInt8, l.length = len ∧ SlB w (.slice a len cap) l := by
  rcases h with ⟨rfl, rfl, rfl, rfl⟩ | ⟨x, rfl, h1, h2, h3, h4, h5⟩
  · exact ⟨[], rfl, none, 0, rfl, fun _ => rfl, Nat.le_refl _, Nat.zero_le _, fun h => by omega⟩
  · have hl : ((zs.take len).map fun z => UInt8.ofNat z.toNat).length = len := by simp; omega
    refine ⟨(zs.take len).map fun z => UInt8.ofNat z.toNat, hl, some x, cap, by rw [hl], fun h => (by cases h), by rw [hl]; exact h1, h2, fun hc => ?_⟩
    have hx : x.spot = none := by
      have := h4 0 (by omega)
      have e : x.add 0 = x := by simp [Addr.add]
      rw [e] at this
      unfold World.cell? at this
      split at this
      · split at this
        · cases this
        · rename_i hs; simpa using hs
      · cases this
    obtain ⟨g, o, s⟩ := x
    cases hx
    refine ⟨g, o, rfl, fun k hk => ?_⟩
    rw [hl] at hk
    have hc := h4 k (by omega)
    have ea : (⟨g, o, none⟩ : Addr).add k = ⟨g, o + k, none⟩ := by unfold Addr.add; split <;> simp_all
    rw [ea] at hc
    rw [hc]
    have hm : zs.getD k 0 ∈ zs := by
      have : k < zs.length := by omega
      simp [this]
    have := u8_of_wf (h5 _ hm)
    have e : g8 ((zs.take len).map fun z => UInt8.ofNat z.toNat) k = UInt8.ofNat (zs.getD k 0).toNat := by
      unfold g8
      have : k < zs.length := by omega
      simp [List.getElem?_take, hk, this]
    rw [e, ← this]
section
variable {P : Program} {H : Type} {enc : TypeId × Value → H}
theorem open_slice_u8 {t e : TypeId} {W : World} {a : Option Addr} {len cap : Nat} {d : DataW H} {ps : List MemPlace} (ht : P.underlying t = some (.slice e)) (he : P.underlying e = some (.int .u8)) (hc : P.cellsOf e = 1)
    (h : DataW.Trod enc P W 0 (fun _ => true) true t (.slice a len cap) d ps) : ∃ l : List UInt8, l.length = len ∧ SlB W (.slice a len cap) l := by
  obtain ⟨zs, hz⟩ : ∃ zs, IsRow .u8 W a len cap zs := by
    obtain ⟨fuel, hf⟩ := h
    rcases Go.ChangeShapes.open_ints ht he hc hf with ⟨hcs, _⟩ | ⟨x, l, c, zs, hcs, _, hl, hm, hz, _, hcell, hwz⟩
    · simp [Value.cells] at hcs
      obtain ⟨rfl, rfl, rfl⟩ := hcs
      exact ⟨[], .inl ⟨rfl, rfl, rfl, rfl⟩⟩
    · simp [Value.cells] at hcs
      obtain ⟨rfl, rfl, rfl⟩ := hcs
      exact ⟨zs, .inr ⟨_, rfl, hl, hm, by simpa using hz, hcell, hwz⟩⟩
  exact slB_of_row hz
/-- an array of bytes -/
theorem open_arr_u8 {t e n : Nat} {W : World} {r : Reach} {base : Nat} {v : Value} (ht : P.underlying t = some (.array n e)) (he : P.underlying e = some (.int .u8)) (hc : P.cellsOf t = n) (hct : P.cellTypes P.depth t = some (List.replicate n e)) (hn : 0 < n)
    (h : Value.okWide P W r base t v) : ∃ l : List UInt8, l.length = n ∧ v = .agg (Bs l) := by
  simp only [Value.okWide, ht] at h
  obtain ⟨cs, rfl, hsz, ts, hts, _, hcell⟩ := h
  rw [hct] at hts
  cases hts
  rw [hc] at hsz
  refine ⟨cs.toList.map fun v => match v with | .int _ z => UInt8.ofNat z.toNat | _ => 0, by simp [hsz], ?_⟩
  congr 1
  apply Array.ext
  · simp [Bs]
  · intro i h1 h2
    obtain ⟨u, hu, hok⟩ := hcell i cs[i] (by simp [h1])
    have hue : u = e := by
      rw [List.getElem?_replicate] at hu
      split at hu
      · cases hu; rfl
      · cases hu
    subst hue
    simp only [Cell.okWide, he] at hok
    simp only [Bs, List.map_map, List.getElem_toArray, List.getElem_map, Function.comp_apply, Array.getElem_toList]
    cases hv : cs[i] with
    | int k z =>
      rw [hv] at hok
      simp only [Cell.ok, he] at hok
      obtain ⟨rfl, hw⟩ := hok
      have hw' : (Lit.int .u8 z).wf = true := by
        unfold Lit.wf
        rw [Bool.and_eq_true]
        exact ⟨decide_eq_true hw.1, decide_eq_true hw.2⟩
      simp only [← u8_of_wf hw']
    | _ => rw [hv] at hok; simp [Cell.ok, he] at hok
end
end Lk
set_option linter.unusedVariables false
namespace Go.Proofs.YtidgmokbkepcdaaDoor
open Go.ChangeShapes Go.WideShapes Go.RowKit
theorem ownKnobNone : ownKnob Tryd.prog.godebug = none := by kernel_rfl
theorem laidOutAll : laidOutB Tryd.prog = true := by kernel_rfl
theorem fct_laid : laidOutB Tryd.checked.prog = true := by kernel_rfl
theorem fct_maps : mapsRowed Tryd.checked.prog = true := by kernel_rfl
theorem fct_main : Tryd.pinned.checked.prog.mainIs = some (true, "1d82cc9c4b3d0a8508a1a589320262ba6b54f0a76839b80b589024a65b27cf2b".toList) := by kernel_rfl
theorem fct_looks : true = Tryd.pinned.checked.prog.looks [] := by kernel_rfl
def laidList : List (String × DataW Unit) := [("errors.errorType", Rows.laid_errors_errorType)]
theorem et_g : Tryd.prog.globalNamed "errors.errorType" = some 0 := by kernel_rfl
theorem et_rt : (Tryd.prog.cutTypes.find? (·.1 == "internal/reflectlite.rtype")).map (·.2) = some 123 := by kernel_rfl
theorem et_row : ((List.range 205).filter fun t => Tryd.prog.rowNamed t [101, 114, 114, 111, 114]) = [29] := by kernel_rfl
theorem et_size : Tryd.prog.types.size = 205 := by kernel_rfl
theorem handle_of_laid {W : World} (h : laidMetH Tryd.prog laidList W) : Et W := by
  have h' : laidMet Tryd.prog [] W ∧ handlesMet Tryd.prog laidList W := h
  obtain ⟨name, u, ty, e1, e2, e3, e4, e5⟩ := h'.2 _ (List.mem_singleton.2 rfl)
  have en : name = [101, 114, 114, 111, 114] := (Option.some.inj e1).symm
  subst en
  obtain rfl := Option.some.inj (et_rt.symm.trans e2)
  have hm : ty ∈ (List.range 205).filter fun t => Tryd.prog.rowNamed t [101, 114, 114, 111, 114] := List.mem_filter.2 ⟨List.mem_range.2 (by rw [← et_size]; exact e3), e4⟩
  rw [et_row] at hm
  obtain rfl := List.mem_singleton.1 hm
  have hh : typeHandle Tryd.prog 29 = .pointer (some ⟨1, 29, none⟩) := by kernel_rfl
  rw [hh] at e5
  have := World.var?_cell et_g e5 0
  unfold Et hnd
  simpa using this
noncomputable def laidWorld (os : Os) : World :=
  let w0 := World.holding Tryd.prog os ⟨#[], #[], []⟩
  { w0 with heap := w0.heap.modify 0 fun
      | .cells _ t frozen => .cells #[.iface 123 (.agg #[.pointer (some ⟨1, 29, none⟩)])] t frozen
      | o => o }
theorem laidWorld_met (os : Os) (args : Array Value) : laidMetH Tryd.prog laidList ((laidWorld os).forCall (fun _ _ => 0) ⟨#[], args, []⟩).memory :=
  laidMetH_of_parts (laidMet_nil _ _) (by kernel_rfl)
end Go.Proofs.YtidgmokbkepcdaaDoor
namespace Go.Proofs.YtidgmokbkepcdaaDoor.arqcAnswers
open Go.ChangeShapes Go.WideShapes Go.ChangeAt Go.RowKit Lk
open Go.ChangeMaps (open_string shut_string)
set_option linter.unusedVariables false
set_option linter.unusedSimpArgs false
set_option maxRecDepth 100000 in
theorem lifted (os : Os) (started : os.Started) (H : Type) (enc : TypeId × Value → H) :
    ReturnsInHanded {} Tryd.checked os 9 .any (fun w args => (Rows.arqcAnswersSpec.pre enc Tryd.prog Tryd.f9 [] false w args ∧ laidMetH Tryd.prog laidList w) ∧ sizedMet enc Tryd.prog Tryd.f9 (OpenSpec.ofChange Rows.arqcAnswersSpec) false w args)
      (Rows.arqcAnswersSpec.post enc Tryd.prog Tryd.f9 false true false false) := by
  refine returnsInHanded_of_change_and (C := Tryd.checked) (X := fun w _ => laidMetH Tryd.prog laidList w) (fun _ _ _ hh h => h.of_heap hh) ownKnobNone started (by kernel_rfl) Tryd.func9
    (ChangeSpec.witness_at (enc := enc) (C := Tryd.checked) (os := os) (X := fun w _ => laidMetH Tryd.prog laidList w) false (laidWorld os) #[.slice none 0 0, .slice none 0 0, .agg #[.int .u8 0, .int .u8 0], .agg #[.int .u8 0, .int .u8 0, .int .u8 0, .int .u8 0], .slice none 0 0] 8 rfl (by kernel_rfl) (by kernel_rfl) (by kernel_rfl) (by kernel_rfl) (by kernel_rfl) (laidWorld_met os _)) ?_
  intro W base args ds gs before hval0 hW _ _ hLd _
  have hval : ∀ (j : Nat) t v, Tryd.f9.params[j]? = some t → args[j]? = some v → Value.okWide Tryd.prog W .any base t v := hval0
  have hW' := hW
  obtain ⟨p, q, hA0, hV, rfl, hfz, hnd⟩ := hW
  have hA : DataW.TrodAll enc Tryd.prog W 0 (fun _ => true) true Tryd.f9.params.toList args.toList ds p := hA0
  have hEt : Et W := handle_of_laid hLd
  rw [Tryd.params9] at hA hval
  obtain ⟨v0, vs0, d0, ds0, p0, q0, hargs, rfl, rfl, h0, r0⟩ := trodAll_cons hA
  obtain ⟨v1, vs1, d1, ds1, p1, q1, rfl, rfl, rfl, h1, r1⟩ := trodAll_cons r0
  obtain ⟨v2, vs2, d2, ds2, p2, q2, rfl, rfl, rfl, h2, r2⟩ := trodAll_cons r1
  obtain ⟨v3, vs3, d3, ds3, p3, q3, rfl, rfl, rfl, h3, r3⟩ := trodAll_cons r2
  obtain ⟨v4, vs4, d4, ds4, p4, q4, rfl, rfl, rfl, h4, r4⟩ := trodAll_cons r3
  obtain ⟨rfl, rfl, rfl⟩ := trodAll_nil r4
  obtain rfl : args = #[v0, v1, v2, v3, v4] := by cases args; simp_all
  obtain ⟨rfl, rfl⟩ := trodVars_none hV
  have k0 := h0
  have lt0 : ∀ x ∈ p0, x.block < W.heap.size := by obtain ⟨m, hm⟩ := k0; exact DataW.trod_lt m _ _ _ hm
  obtain ⟨a0, len0, cap0, rfl⟩ := okWide_slice Tryd.underlying22 (hval 0 22 v0 rfl rfl)
  obtain ⟨l0, hl0, s0⟩ := open_slice_u8 Tryd.underlying22 Tryd.underlying5 (by kernel_rfl) h0
  have k1 := h1
  have lt1 : ∀ x ∈ p1, x.block < W.heap.size := by obtain ⟨m, hm⟩ := k1; exact DataW.trod_lt m _ _ _ hm
  obtain ⟨a1, len1, cap1, rfl⟩ := okWide_slice Tryd.underlying22 (hval 1 22 v1 rfl rfl)
  obtain ⟨l1, hl1, s1⟩ := open_slice_u8 Tryd.underlying22 Tryd.underlying5 (by kernel_rfl) h1
  have k2 := h2
  have lt2 : ∀ x ∈ p2, x.block < W.heap.size := by obtain ⟨m, hm⟩ := k2; exact DataW.trod_lt m _ _ _ hm
  obtain ⟨l2, hl2, rfl⟩ := open_arr_u8 Tryd.underlying55 Tryd.underlying5 (by kernel_rfl) (by kernel_rfl) (by decide) (hval 2 55 v2 rfl rfl)
  have k3 := h3
  have lt3 : ∀ x ∈ p3, x.block < W.heap.size := by obtain ⟨m, hm⟩ := k3; exact DataW.trod_lt m _ _ _ hm
  obtain ⟨l3, hl3, rfl⟩ := open_arr_u8 Tryd.underlying56 Tryd.underlying5 (by kernel_rfl) (by kernel_rfl) (by decide) (hval 3 56 v3 rfl rfl)
  have k4 := h4
  have lt4 : ∀ x ∈ p4, x.block < W.heap.size := by obtain ⟨m, hm⟩ := k4; exact DataW.trod_lt m _ _ _ hm
  obtain ⟨a4, len4, cap4, rfl⟩ := okWide_slice Tryd.underlying22 (hval 4 22 v4 rfl rfl)
  obtain ⟨l4, hl4, s4⟩ := open_slice_u8 Tryd.underlying22 Tryd.underlying5 (by kernel_rfl) h4
  clear hA0 hval0
  refine (ArqcAnswers_any _ l0 _ l1 l2 l3 _ l4 W hEt s0 s1 hl2 hl3 s4).mono fun e W' ⟨he, bel⟩ => ?_
  subst he
  exact ⟨_, rfl, _, _, _, [], _, [], hW', trodAll_mk1 (shut_bool Tryd.underlying4 _), (trodAll_cons_mk (Below.trod laidOutAll (by kernel_rfl) (of_decide_eq_true (by kernel_rfl)) k0 bel lt0) (trodAll_cons_mk (Below.trod laidOutAll (by kernel_rfl) (of_decide_eq_true (by kernel_rfl)) k1 bel lt1) (trodAll_cons_mk (Below.trod laidOutAll (by kernel_rfl) (of_decide_eq_true (by kernel_rfl)) k2 bel lt2) (trodAll_cons_mk (Below.trod laidOutAll (by kernel_rfl) (of_decide_eq_true (by kernel_rfl)) k3 bel lt3) (trodAll_cons_mk (Below.trod laidOutAll (by kernel_rfl) (of_decide_eq_true (by kernel_rfl)) k4 bel lt4) trodAll_mk0))))), rfl, bel.frame _, fun h => by cases h⟩
set_option maxHeartbeats 8000000 in
theorem closed : joinedFacts Tryd.checked.prog 9 Tryd.f9 Rows.arqcAnswersSpec Rows.arqcAnswersRow = true := by
  unfold joinedFacts
  simp only [Bool.and_eq_true]
  repeat' apply And.intro
  all_goals first | with_reducible exact fct_laid | with_reducible exact fct_maps | as_aux_lemma => kernel_rfl
theorem named_f : Tryd.prog.funcNamed "lockbox/lockboxlaw19.ArqcAnswers" = some 9 := by kernel_rfl
theorem over : Rows.ArqcAnswersSaid :=
  OpenClaim.holds_of_wide 9 Tryd.f9 rfl rfl rfl rfl rfl rfl rfl ⟨rfl, rfl, rfl, rfl, rfl⟩ rfl rfl rfl rfl rfl named_f Tryd.func9 closed
    (of_decide_eq_true (by kernel_rfl)) (by unfold Func.isWrapper; first | (rw [if_pos (by decide +kernel)]; kernel_rfl) | (rw [if_neg (by decide +kernel)]; exact ⟨rfl, rfl⟩))
    (fun os started H enc _ => lifted os started H enc)
theorem params_ok (j : Nat) (t : TypeId) (ht : Tryd.f9.params[j]? = some t) : Tryd.prog.wantsStandIn t = false := by
  rw [Tryd.params9] at ht
  have hm : t ∈ #[22, 22, 55, 56, 22] := Array.mem_of_getElem? ht
  simp only [List.mem_toArray, List.mem_cons, List.not_mem_nil, or_false] at hm
  rcases hm with rfl | rfl | rfl | rfl | rfl
  · show Tryd.prog.wantsStandIn 22 = false
    kernel_rfl
  · show Tryd.prog.wantsStandIn 22 = false
    kernel_rfl
  · show Tryd.prog.wantsStandIn 55 = false
    kernel_rfl
  · show Tryd.prog.wantsStandIn 56 = false
    kernel_rfl
  · show Tryd.prog.wantsStandIn 22 = false
    kernel_rfl
theorem wf_text : Rows.arqcAnswersRow.wfByText (OpenSpec.ofChange Rows.arqcAnswersSpec) = true := by kernel_rfl
theorem goes_no : false = Rows.arqcAnswersRow.goesBy Tryd.pinned.checked.prog := by kernel_rfl
theorem card_holds : Rows.ArqcAnswersCardSaid :=
  Claim7.holds_tied_plain_at .later [] [.handle] true (true, "1d82cc9c4b3d0a8508a1a589320262ba6b54f0a76839b80b589024a65b27cf2b") true
    over (fun _ h => by cases h) wf_text (fun _ h => by cases h) arqcAnswers_row_tie rfl ⟨rfl, rfl⟩ fct_main rfl
    (fun f fn hf hfn => by
      obtain rfl : f = 9 := Option.some.inj (named_f.symm.trans hf) |>.symm
      obtain rfl : fn = Tryd.f9 := (Option.some.inj (Tryd.func9.symm.trans hfn)).symm
      exact ⟨fct_looks, fun j t ht => params_ok j t ht⟩)
    goes_no
#print axioms card_holds
end Go.Proofs.YtidgmokbkepcdaaDoor.arqcAnswers
namespace Go.Proofs.YtidgmokbkepcdaaDoor
/-- The card, under a short name, for the claim. -/
theorem arqcAnswers_holds : Rows.ArqcAnswersCardSaid := arqcAnswers.card_holds
end Go.Proofs.YtidgmokbkepcdaaDoor
