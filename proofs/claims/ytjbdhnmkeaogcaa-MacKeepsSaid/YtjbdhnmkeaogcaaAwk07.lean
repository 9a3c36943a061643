/- Layer 7: the answers that the document fixes. -/
import Derived.Test.YtjbdhnmkeaogcaaCarry
import Derived.Test.YtjbdhnmkeaogcaaEvG
set_option linter.unusedVariables false
set_option linter.unusedSimpArgs false
namespace Go.Proofs.Ytjbdhnmkeaogcaa
open Go.RowKit Lk
theorem Pad_lit (n : Nat) (k : Int) (hk : k = n) (vt : Value) (text : List UInt8) (w : World) (hs : SlB w vt text) (hl : text.length ≤ 1000000) (h1 : 0 < n) (h2 : n ≤ 64) :
    Calls Try.prog 16 #[vt, .int .i64 k] w fun e w' => ∃ v, e = .returned v ∧ Own w' w.heap.size v (ppad text n) ∧ Below w.heap.size w w' := by
  subst hk; exact Pad_any vt text n w hs hl h1 h2
theorem Cmac_lit (n : Nat) (k : Int) (hk : k = n) (q vt : Value) (B kind : Nat) (key text : List UInt8) (w : World) (hkd : kind = 1 ∨ kind = 2) (h : Cip w B q kind key) (hB : B ≤ w.heap.size) (hf : pfits kind key.length = true) (hs : SlB w vt text) (hl : text.length ≤ 1000) (hn1 : 1 ≤ n) (hn2 : n ≤ psize kind) :
    Calls Try.prog 15 #[q, vt, .int .i64 k] w fun e w' => ∃ v, e = .returned (.tuple #[v, .nilIface]) ∧ Own w' w.heap.size v ((pcmac kind key text).take n) ∧ Below w.heap.size w w' := by
  subst hk; exact Cmac_any q vt B kind n key text w hkd h hB hf hs hl hn1 hn2
theorem Retail_lit (n : Nat) (k : Int) (hkn : k = n) (vk vt : Value) (key text : List UInt8) (w : World) (hk : SlB w vk key) (hkl : key.length = 16) (hs : SlB w vt text) (hl : text.length ≤ 1000) (hn1 : 1 ≤ n) (hn2 : n ≤ 8) :
    Calls Try.prog 17 #[vk, vt, .int .i64 k] w fun e w' => ∃ v, e = .returned (.tuple #[v, .nilIface]) ∧ Own w' w.heap.size v ((pretail key text).take n) ∧ Below w.heap.size w w' := by
  subst hkn; exact Retail_any vk vt n key text w hk hkl hs hl hn1 hn2
set_option maxHeartbeats 1600000 in
set_option maxRecDepth 100000 in
theorem awake07 (w : World) : Calls Try.prog 12 #[] w fun e w' => e = .returned (.bool true) ∧ Below w.heap.size w w' := by
  obtain ⟨N, hN⟩ : ∃ N, w.heap.size = N := ⟨_, rfl⟩
  have HN := Lib.hid hN
  go_enter Try.func12, Try.ntmps12
  go_wp2_with fail
  generalize hw1 : w.alloc _ = w1
  have hB1 : Blk w1 N 5 k07 := by rw [← hw1, ← hN]; exact heap_alloc_new w _
  have hM1 : Below N w w1 := by rw [← hw1]; exact below_alloc (Below.refl _ _) (by omega) _
  have hs1 := hM1.size
  rw [hN] at hs1
  have hS1 := hB1.slB (n := 16) rfl (by decide)
  have HS1 := Lib.hid (fun (w' : World) (hw' : Below w1.heap.size w1 w') => hS1.below hw')
  clear hw1 hB1
  refine (New_aes _ k07 w1 rfl hS1).mono ?_
  rintro e w2 ⟨q, rfl, hC2, hL2⟩
  have HS2 := Lib.hid (HS1.out w2 hL2)
  have hM2 : Below N w w2 := below_more hM1 hL2 hs1
  have hs2 := hM2.size
  rw [hN] at hs2
  have HC2 := Lib.hid hC2
  obtain ⟨gq, _, _, rfl, _⟩ := hC2
  clear hM1 hS1 hL2 HS1
  go_wp2_with fail
  refine (Cmac_lit 4 4 rfl _ _ _ 1 k07 [] w2 (.inl rfl) HC2.out (Nat.le_refl _) rfl (slB_nil w2) (by decide) (by decide) (by decide)).mono ?_
  rintro e w3 ⟨v3, rfl, hO3, hL3⟩
  rw [show (pcmac 1 k07 []).take 4 = [0xbb, 0x1d, 0x69, 0x29] from by rw [e07]; rfl] at hO3
  have HS3 := Lib.hid (HS2.out.below hL3)
  have hM3 : Below N w w3 := below_more hM2 hL3 hs2
  have hs3 := hM3.size
  rw [hN] at hs3
  obtain ⟨A3, c3, rfl⟩ := hO3.slB.form (L := 4) rfl
  have hS3 := hO3.slB
  clear hM2 hL3 HC2 HS2 hO3
  go_wp2_with fail
  refine (Retail_lit 8 8 rfl _ _ k07 [] w3 HS3.out rfl (slB_nil w3) (by decide) (by decide) (by decide)).mono ?_
  rintro e w4 ⟨v4, rfl, hO4, hL4⟩
  have hS4 := hS3.below hL4
  have hM4 : Below N w w4 := below_more hM3 hL4 hs3
  have hs4 := hM4.size
  rw [hN] at hs4
  have hlr : ((pretail k07 []).take 8).length = 8 := by rw [List.length_take, pretail_short _ _ (by decide), ptriple_len]; rfl
  obtain ⟨A4, c4, rfl⟩ := hO4.slB.form (L := 8) hlr
  clear hM3 hL4 HS3 hO4 hlr hS3
  go_wp2_with fail
  generalize hw5 : w4.alloc _ = w5
  have hB5 : Blk w5 w4.heap.size 5 [0xbb, 0x1d, 0x69, 0x29] := by rw [← hw5]; exact heap_alloc_new w4 _
  have hL5 : Below w4.heap.size w4 w5 := by rw [← hw5]; exact below_alloc (Below.refl _ _) (Nat.le_refl _) _
  have hS5 := hB5.slB (n := 4) rfl (by decide)
  have hM5 : Below N w w5 := below_more hM4 hL5 hs4
  have hs5 := hM5.size
  rw [hN] at hs5
  have hS4' := hS4.below hL5
  clear hw5 hB5 hL5 hM4 hS4
  refine (Same_any _ _ _ _ w5 hS4' hS5 (by decide)).mono ?_
  rintro e w6 ⟨rfl, hD6⟩
  have hM6 : Below N w w6 := below_more hM5 hD6.below0 hs5
  have hs6 := hM6.size
  rw [hN] at hs6
  rw [beq_self_eq_true]
  clear hS4' hS5 hM5 hD6
  go_wp2_with fail
  refine (Pad_lit 8 8 rfl _ [] w6 (slB_nil w6) (by decide) (by decide) (by decide)).mono ?_
  rintro e w7 ⟨v7, rfl, hO7, hL7⟩
  have hM7 : Below N w w7 := below_more hM6 hL7 hs6
  obtain ⟨A7, c7, rfl⟩ := hO7.slB.form (L := 8) (by decide)
  clear hM6 hO7 hL7
  go_wp2_with fail
  go_ret
  exact ⟨rfl, by rw [HN.out]; exact hM7⟩
end Go.Proofs.Ytjbdhnmkeaogcaa
