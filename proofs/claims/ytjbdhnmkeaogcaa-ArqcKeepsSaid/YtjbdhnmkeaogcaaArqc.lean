/- Cryptograms of cards: Make, Verify, One. -/
import Derived.Test.YtjbdhnmkeaogcaaCarry
set_option linter.unusedVariables false
set_option linter.unusedSimpArgs false
namespace Lk
open Go Go.RowKit
theorem SlB.rd {w : World} {g o L c : Nat} {l : List UInt8} (h : SlB w (.slice (some ⟨g, o, none⟩) L c) l) : Rd w g o l := by
  obtain ⟨A', c', e, _, h2, _, h4⟩ := h
  cases e
  intro k hk
  obtain ⟨g', o', e2, hr⟩ := h4 (by omega)
  cases e2
  exact hr k hk
/-- a code turned by an answer's two bytes -/
def turn2 (c a : List UInt8) : List UInt8 := (c.set 0 (g8 c 0 ^^^ g8 a 0)).set 1 (g8 c 1 ^^^ g8 a 1)
theorem turn2_len (c a : List UInt8) : (turn2 c a).length = c.length := by simp [turn2]
/-- nil, or the error of a wrong sum -/
def sumErr (b : Bool) : Value := bif b then .nilIface else .iface 61 (.int .i64 4)
def pone (key code ans : List UInt8) : List UInt8 := ptriple key (turn2 code ans) false
theorem pretail_len (key text : List UInt8) : (pretail key text).length = 8 := ptriple_len _ _ _
end Lk
namespace Go.Proofs.Ytjbdhnmkeaogcaa
open Go.RowKit Lk
theorem Retail_at (n : Nat) (k : Int) (hkn : k = n) (vk vt : Value) (key text : List UInt8) (w : World) (hk : SlB w vk key) (hkl : key.length = 16) (hs : SlB w vt text) (hl : text.length ≤ 1000) (hn1 : 1 ≤ n) (hn2 : n ≤ 8) :
    Calls Try.prog 17 #[vk, vt, .int .i64 k] w fun e w' => ∃ v, e = .returned (.tuple #[v, .nilIface]) ∧ Own w' w.heap.size v ((pretail key text).take n) ∧ Below w.heap.size w w' := by
  subst hkn; exact Retail_any vk vt n key text w hk hkl hs hl hn1 hn2
set_option maxHeartbeats 800000 in
set_option maxRecDepth 100000 in
theorem Make_any (vk vt : Value) (key text : List UInt8) (w : World) (hk : SlB w vk key) (hkl : key.length = 16) (hs : SlB w vt text) (hl : text.length ≤ 255) :
    Calls Try.prog 28 #[vk, vt] w fun e w' => ∃ v, e = .returned (.tuple #[v, .nilIface]) ∧ Own w' w.heap.size v (pretail key text) ∧ Below w.heap.size w w' := by
  have hR := Retail_at 8 8 rfl vk vt key text w hk hkl hs (by omega) (by decide) (by decide)
  rw [List.take_of_length_le (by rw [pretail_len]; decide)] at hR
  have HR := Lib.hid hR
  obtain ⟨L, eL⟩ : ∃ L, text.length = L := ⟨_, rfl⟩
  obtain ⟨At, ct, rfl⟩ := hs.form eL
  obtain ⟨Ak, ck, rfl⟩ := hk.form hkl
  rw [eL] at hl
  clear hR hk hs eL hkl
  go_enter Try.func28, Try.ntmps28
  go_wp2_with fail
  refine HR.out.mono ?_
  rintro e w1 ⟨v, rfl, hO, hL⟩
  have HO := Lib.hid hO
  have HL := Lib.hid hL
  obtain ⟨A1, c1, rfl⟩ := hO.slB.form (pretail_len _ _)
  clear hO hL
  go_wp2_with fail
  go_ret2
  exact ⟨_, rfl, HO.out, HL.out⟩
set_option maxHeartbeats 800000 in
set_option maxRecDepth 100000 in
theorem Verify_any (vk vt vc : Value) (key text code : List UInt8) (w : World) (hk : SlB w vk key) (hkl : key.length = 16) (hs : SlB w vt text) (hl : text.length ≤ 255) (hc : SlB w vc code) :
    Calls Try.prog 40 #[vk, vt, vc] w fun e w' => e = .returned (sumErr (pretail key text == code)) ∧ Below w.heap.size w w' := by
  have HM := Lib.hid (Make_any vk vt key text w hk hkl hs hl)
  have HC := Lib.hid (fun w' (h : Below w.heap.size w w') => hc.below h)
  obtain ⟨Ak, ck, rfl⟩ := hk.form hkl
  obtain ⟨At, Lt, ct, rfl⟩ : ∃ A L c, vt = .slice A L c := by obtain ⟨A, c, e, _⟩ := hs; exact ⟨A, _, c, e⟩
  obtain ⟨Ac, Lc, cc, rfl⟩ : ∃ A L c, vc = .slice A L c := by obtain ⟨A, c, e, _⟩ := hc; exact ⟨A, _, c, e⟩
  clear hk hs hc hl hkl
  obtain ⟨b, eb⟩ : ∃ b, (pretail key text == code) = b := ⟨_, rfl⟩
  rw [eb]
  have HE := Lib.hid eb
  clear eb
  cases b
  all_goals
    go_enter Try.func40, Try.ntmps40
    go_wp2_with fail
    refine HM.out.mono ?_
    rintro e w1 ⟨v, rfl, hO, hL⟩
    have HS := Lib.hid hO.slB
    have HL := Lib.hid hL
    obtain ⟨A1, c1, rfl⟩ := hO.slB.form (pretail_len _ _)
    clear hO hL
    go_wp2_with fail
    refine (Equal_any _ _ (pretail key text) code w1 HS.out (HC.out w1 HL.out) (by rw [pretail_len]; decide)).mono ?_
    rintro e w2 ⟨rfl, hD⟩
    have HL2 := Lib.hid (below_more HL.out hD.below0 HL.out.size)
    clear hD
    rw [HE.out]
    go_wp2_with fail
    go_ret
    exact ⟨rfl, HL2.out⟩
set_option maxHeartbeats 1600000 in
set_option maxRecDepth 100000 in
theorem One_any (vk vc : Value) (key code ans : List UInt8) (w : World) (hk : SlB w vk key) (hkl : key.length = 16) (hc : SlB w vc code) (hcl : code.length = 8) (hal : ans.length = 2) :
    Calls Try.prog 26 #[vk, vc, .agg (Bs ans)] w fun e w' => ∃ v, e = .returned (.tuple #[v, .nilIface]) ∧ NewA w' w.heap.size v (pone key code ans) ∧ Below w.heap.size w w' := by
  obtain ⟨N, hN⟩ : ∃ N, w.heap.size = N := ⟨_, rfl⟩
  have HN := Lib.hid hN
  have HK := Lib.hid (fun (w' : World) (hw' : Below N w w') => hk.below (by rw [hN]; exact hw'))
  have HC := Lib.hid (fun (w' : World) (hw' : Below N w w') => hc.below (by rw [hN]; exact hw'))
  have HKL := Lib.hid hkl
  have HCL := Lib.hid hcl
  have HAL := Lib.hid hal
  obtain ⟨Ak, ck, rfl⟩ := hk.form hkl
  obtain ⟨gc, oc, cc, rfl⟩ : ∃ g o c, vc = .slice (some ⟨g, o, none⟩) 8 c := by
    obtain ⟨A, c, e, _, h2, _, h4⟩ := hc
    obtain ⟨g, o, rfl, _⟩ := h4 (by omega)
    exact ⟨g, o, c, by rw [e, hcl]⟩
  have hto : okParts key = true := by unfold okParts; rw [hkl]; rfl
  have HTO := Lib.hid hto
  obtain ⟨t, et⟩ : ∃ t, turn2 code ans = t := ⟨_, rfl⟩
  have htl : t.length = 8 := by rw [← et, turn2_len, hcl]
  have HTL := Lib.hid htl
  have HET := Lib.hid et
  clear hk hc hkl hcl hal hto et htl
  go_enter Try.func26, Try.ntmps26
  go_wp2_with (first
    | ((with_reducible show wpList _ _ _ _ _ w); refine box_blk (w := w) rfl 52 _ rfl ans rfl ?_; intro w1 hB1 hG1 hz1; have hM1 : Below N w w1 := (below_none (Below.refl _ _) (by omega) hG1); rw [hN] at hB1 hz1)
    | (refine to_array rfl 23 _ rfl (some ⟨gc, oc, none⟩) 8 8 cc 5 (by rfl) (Nat.le_refl _) (by kernel_rfl) ?_)
    | (refine load_rd rfl 23 _ rfl gc oc 8 5 code (by rfl) (HC.out w1 hM1).rd HCL.out (by kernel_rfl) (by kernel_rfl) ?_)
    | ((with_reducible show wpList _ _ _ _ _ w1); refine alloc_row (w := w1) rfl 23 rfl (.agg (Bs (List.replicate 8 0))) 8 (fun _ => by kernel_rfl) rfl ?_; intro w2 hR2 _ hG2 hz2; have hB2 := hB1.old hG2 (by simp); have hM2 : Below N w w2 := (below_none hM1 (by omega) hG2); rw [hz1] at hR2 ⊢)
    | ((with_reducible show wpList _ _ _ _ _ w2); refine store_blk (w := w2) rfl 23 _ _ rfl (N + 1) 23 8 code (by rfl) (by rfl) hR2 HCL.out (by kernel_rfl) ?_; intro w3 hB3 hG3 hz3; have hA3 := hB2.old hG3 (by simp); have hM3 : Below N w w3 := (below_new hM2 (by omega) hG3 (by omega)); have c0 : w3.cell? ⟨N + 1, 0, none⟩ = some (.int .u8 (bv (g8 code 0))) := (hB3.cell 0 (by rw [HCL.out]; decide)); have a0 : w3.cell? ⟨N, 0, none⟩ = some (.int .u8 (bv (g8 ans 0))) := (hA3.cell 0 (by rw [HAL.out]; decide)))
    | ((with_reducible show wpList _ _ _ _ _ w3); refine store_b (w := w3) rfl 5 _ _ rfl (N + 1) 0 23 code (g8 code 0 ^^^ g8 ans 0) (by rfl) _ (by rfl) rfl hB3 (by rw [HCL.out]; decide) (by kernel_rfl) ?_; intro w4 hB4 hG4 hz4; have hA4 := hA3.old hG4 (by simp); have hM4 : Below N w w4 := (below_new hM3 (by omega) hG4 (by omega)); have c1 : w4.cell? ⟨N + 1, 1, none⟩ = some (.int .u8 (bv (g8 code 1))) := (by have h := hB4.cell 1 (by rw [List.length_set, HCL.out]; decide); rw [show g8 (code.set 0 (g8 code 0 ^^^ g8 ans 0)) 1 = g8 code 1 from by simp [g8]] at h; exact h); have a1 : w4.cell? ⟨N, 1, none⟩ = some (.int .u8 (bv (g8 ans 1))) := (hA4.cell 1 (by rw [HAL.out]; decide)))
    | ((with_reducible show wpList _ _ _ _ _ w4); refine store_b (w := w4) rfl 5 _ _ rfl (N + 1) 1 23 _ (g8 code 1 ^^^ g8 ans 1) (by rfl) _ (by rfl) rfl hB4 (by rw [List.length_set, HCL.out]; decide) (by kernel_rfl) ?_; intro w5 hB5 hG5 hz5; have hM5 : Below N w w5 := (below_new hM4 (by omega) hG5 (by omega)); have hT5 : Blk w5 (N + 1) 23 t := (by rw [← HET.out]; exact hB5); have hM5n : N ≤ w5.heap.size := (by omega))
    | ((with_reducible show wpList _ _ _ _ _ w5); refine load_blk (w := w5) rfl 23 _ rfl (N + 1) 23 8 5 t (by rfl) hT5 HTL.out (by kernel_rfl) (by kernel_rfl) ?_)
    | (go_at_call 33; refine (Triple_any _ key t false w5 (HK.out w5 hM5) HTL.out).mono ?_; rintro e w6 ⟨rfl, hL6⟩; rw [HTO.out]; have hM6 : Below N w w6 := (below_more hM5 hL6 hM5n); have hM6n := Nat.le_trans hM5n hL6.size)
    | ((with_reducible show wpList _ _ _ _ _ w6); refine alloc_row (w := w6) rfl 23 rfl (.agg (Bs (List.replicate 8 0))) 8 (fun _ => by kernel_rfl) rfl ?_; intro w7 hR7 _ hG7 hz7; have hM7 : Below N w w7 := (below_none hM6 hM6n hG7))
    | ((with_reducible show wpList _ _ _ _ _ w7); refine store_blk (w := w7) rfl 23 _ _ rfl w6.heap.size 23 8 (ptriple key t false) (by rfl) (by rfl) hR7 (ptriple_len _ _ _) (by kernel_rfl) ?_; intro w8 hB8 hG8 hz8; have hM8 : Below N w w8 := (below_new hM7 (by omega) hG8 hM6n); obtain ⟨g8x, eg8⟩ : ∃ g, w6.heap.size = g := ⟨_, rfl⟩; rw [eg8] at hB8 hM6n ⊢))
  go_ret2
  exact ⟨_, rfl, ⟨g8x, 23, by decide, by unfold pone; rw [ptriple_len]; rfl, by rw [HN.out]; exact hM6n, by unfold pone; rw [HET.out]; exact hB8⟩, by rw [HN.out]; exact hM8⟩
end Go.Proofs.Ytjbdhnmkeaogcaa
