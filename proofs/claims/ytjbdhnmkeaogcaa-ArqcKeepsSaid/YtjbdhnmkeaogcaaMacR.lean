/- Codes of texts: the retail code. -/
import Derived.Test.YtjbdhnmkeaogcaaMacC
set_option linter.unusedVariables false
set_option linter.unusedSimpArgs false
namespace Go.Proofs.Ytjbdhnmkeaogcaa
open Go.RowKit Lk
theorem New_aes (v : Value) (key : List UInt8) (w : World) (hf : pfits 1 key.length = true) (h : SlB w v key) : Calls Try.prog 11 #[.int .i64 (1 : Int), v, .pointer none] w (Newed w 1 key) := New_any v none 1 key w (.inl rfl) hf h
theorem New_tdes (v : Value) (key : List UInt8) (w : World) (hf : pfits 2 key.length = true) (h : SlB w v key) : Calls Try.prog 11 #[.int .i64 (2 : Int), v, .pointer none] w (Newed w 2 key) := New_any v none 2 key w (.inr rfl) hf h
theorem Pad_8 (vt : Value) (text : List UInt8) (w : World) (hs : SlB w vt text) (hl : text.length ≤ 1000000) :
    Calls Try.prog 16 #[vt, .int .i64 (8 : Int)] w fun e w' => ∃ v, e = .returned v ∧ Own w' w.heap.size v (ppad text 8) ∧ Below w.heap.size w w' := Pad_any vt text 8 w hs hl (by decide) (by decide)
set_option maxHeartbeats 3200000 in
set_option maxRecDepth 100000 in
theorem Retail_any (vk vt : Value) (n : Nat) (key text : List UInt8) (w : World) (hk : SlB w vk key) (hkl : key.length = 16) (hs : SlB w vt text) (hl : text.length ≤ 1000) (hn1 : 1 ≤ n) (hn2 : n ≤ 8) :
    Calls Try.prog 17 #[vk, vt, .int .i64 n] w fun e w' => ∃ v, e = .returned (.tuple #[v, .nilIface]) ∧ Own w' w.heap.size v ((pretail key text).take n) ∧ Below w.heap.size w w' := by
  obtain ⟨N, hN⟩ : ∃ N, w.heap.size = N := ⟨_, rfl⟩
  have HN := Lib.hid hN
  have HT := Lib.hid (fun (w' : World) (hw' : Below N w w') => hs.below (by rw [hN]; exact hw'))
  have HKb := Lib.hid (fun (w' : World) (hw' : Below N w w') => hk.below (by rw [hN]; exact hw'))
  obtain ⟨gk, ok, ck, rfl, hck⟩ : ∃ gk ok ck, vk = .slice (some ⟨gk, ok, none⟩) 16 ck ∧ 16 ≤ ck := by
    obtain ⟨A, c, e, _, h2, _, h4⟩ := hk
    obtain ⟨g, o, rfl, _⟩ := h4 (by omega)
    exact ⟨g, o, c, by rw [e, hkl], by omega⟩
  have h1 : SlB w (.slice (some ⟨gk, ok, none⟩) 8 ck) (key.take 8) := hk.take (by omega)
  have h2 : ∀ w' : World, Below N w w' → SlB w' (.slice (some ⟨gk, ok + 8, none⟩) 8 (ck - 8)) (key.drop 8) := fun w' hw' => (HKb.out w' hw').drop (by omega)
  have f1 : pfits 2 (key.take 8).length = true := by rw [List.length_take, hkl]; rfl
  have f2 : pfits 2 (key.drop 8).length = true := by rw [List.length_drop, hkl]; rfl
  obtain ⟨ka, eka⟩ : ∃ ka, key.take 8 = ka := ⟨_, rfl⟩
  obtain ⟨kb, ekb⟩ : ∃ kb, key.drop 8 = kb := ⟨_, rfl⟩
  rw [eka] at h1 f1
  rw [ekb] at f2
  simp only [ekb] at h2
  obtain ⟨p, ep⟩ : ∃ p, ppad text 8 = p := ⟨_, rfl⟩
  have hpl : p.length % 8 = 0 ∧ 8 ≤ p.length ∧ p.length ≤ 1100 := by
    have hm := ppad_mod text 8 (by decide)
    have hl2 := ppad_len text 8
    have hz := pzeros_lt text.length 8 (by decide)
    rw [ep] at hm hl2
    refine ⟨hm, ?_, by omega⟩
    exact Nat.le_of_dvd (by omega) (Nat.dvd_of_mod_eq_zero hm)
  obtain ⟨r, er⟩ : ∃ r, pretail key text = r := ⟨_, rfl⟩
  have hr : r = ptriple ka (ptriple kb (pchain 2 ka p (p.length / 8)) true) false := by rw [← er]; unfold pretail; rw [eka, ekb, ep]
  have H1 := Lib.hid h1
  have H2 := Lib.hid h2
  have F1 := Lib.hid f1
  have F2 := Lib.hid f2
  have EP := Lib.hid ep
  have HPL := Lib.hid hpl
  have HR := Lib.hid hr
  obtain ⟨At, ct, rfl⟩ := hs.form rfl
  obtain ⟨L, eL⟩ : ∃ L, text.length = L := ⟨_, rfl⟩
  have EL := Lib.hid eL
  rw [eL] at hl HT ⊢
  rw [er]
  clear hk hs h1 h2 f1 f2 eka ekb ep hpl er hr eL HKb hkl
  have j1 : (8 : Int) ≤ (ck : Int) := by omega
  go_enter Try.func17, Try.ntmps17
  go_wp2_with fail
  refine (New_tdes _ ka w F1.out H1.out).mono ?_
  rintro e w1 ⟨q1, rfl, hC1, hL1⟩
  rw [hN] at hL1
  have hs1 := hL1.size
  rw [hN] at hs1
  have HC1 := Lib.hid hC1
  clear hC1
  go_wp2_with fail
  refine (New_tdes _ kb w1 F2.out (H2.out w1 hL1)).mono ?_
  rintro e w2 ⟨q2, rfl, hC2, hL2⟩
  have hM2 : Below N w w2 := below_more hL1 hL2 hs1
  have hs2 := hM2.size
  rw [hN] at hs2
  have HC2 := Lib.hid hC2
  have HC12 := Lib.hid (HC1.out.below hL2 (Nat.le_refl _))
  have h12 : w1.heap.size ≤ w2.heap.size := hL2.size
  clear hC2 hL2 hL1 HC1
  go_wp2_with fail
  refine (Pad_8 _ text w2 (HT.out w2 hM2) (by rw [EL.out]; omega)).mono ?_
  rintro e w3 ⟨v3, rfl, hO3, hL3⟩
  rw [EP.out] at hO3
  have hM3 : Below N w w3 := below_more hM2 hL3 hs2
  have hs3 := hM3.size
  rw [hN] at hs3
  have h23 : w2.heap.size ≤ w3.heap.size := hL3.size
  have HC13 := Lib.hid (HC12.out.below hL3 h12)
  have HC23 := Lib.hid (HC2.out.below hL3 (Nat.le_refl _))
  have HO3 := Lib.hid hO3
  obtain ⟨A3, c3, rfl⟩ := hO3.slB.form rfl
  clear hO3 hM2 hL3 HC12 HC2
  go_wp2_with fail
  refine (chain_any q1 _ w1.heap.size (p.length / 8) 2 ka p w3 (.inr rfl) HC13.out (by omega) F1.out HO3.out.slB ((Nat.mul_div_cancel' (Nat.dvd_of_mod_eq_zero HPL.out.1)).symm) (Nat.div_pos HPL.out.2.1 (by decide)) (by have := HPL.out.2.2; have := Nat.div_le_self p.length 8; omega)).mono ?_
  rintro e w4 ⟨v4, rfl, hS4, hv4, hL4⟩
  have hM4 : Below N w w4 := below_more hM3 hL4 hs3
  have hs4 := hM4.size
  rw [hN] at hs4
  have h34 : w3.heap.size ≤ w4.heap.size := hL4.size
  have HC14 := Lib.hid (HC13.out.below hL4 (by omega))
  have HC24 := Lib.hid (HC23.out.below hL4 (by omega))
  obtain ⟨y, ey⟩ : ∃ y, pchain 2 ka p (p.length / 8) = y := ⟨_, rfl⟩
  rw [ey] at hS4
  have hyl : y.length = 8 := by rw [← ey]; exact pchain_len 2 ka p _ (.inr rfl)
  have EY := Lib.hid ey
  have HYL := Lib.hid hyl
  obtain ⟨A4, c4, rfl⟩ := hS4.form hyl
  have HS4 := Lib.hid hS4
  clear hM3 hL4 hS4 hv4 ey hyl HC13 HC23
  go_wp2_with fail
  refine (Do_sz q2 _ w2.heap.size 2 8 kb y true w4 (.inr rfl) HC24.out (by omega) F2.out HS4.out HYL.out rfl).mono ?_
  rintro e w5 ⟨g5, rfl, hS5, hg5, hg5', hL5⟩
  have hM5 : Below N w w5 := below_more hM4 hL5 hs4
  have hs5 := hM5.size
  rw [hN] at hs5
  have h45 : w4.heap.size ≤ w5.heap.size := hL5.size
  have HC15 := Lib.hid (HC14.out.below hL5 (by omega))
  have HS5 := Lib.hid hS5
  clear hM4 hL5 hS5 HC14 HC24
  go_wp2_with fail
  refine (Do_sz q1 _ w1.heap.size 2 8 ka (pdo 2 kb y true) false w5 (.inr rfl) HC15.out (by omega) F1.out HS5.out (pdo_len 2 _ _ _ (.inr rfl)) rfl).mono ?_
  rintro e w6 ⟨g6, rfl, hS6, hg6, hg6', hL6⟩
  have hM6 : Below N w w6 := below_more hM5 hL6 hs5
  have hs6 := hM6.size
  rw [hN] at hs6
  have hr2 : pdo 2 ka (pdo 2 kb y true) false = r := by
    rw [HR.out, EY.out]
    unfold pdo
    rw [if_pos rfl, if_pos rfl]
  rw [hr2] at hS6
  have hrl : r.length = 8 := by rw [← hr2]; exact pdo_len 2 _ _ _ (.inr rfl)
  have HS6 := Lib.hid (hS6.take (n := n) (by rw [hrl]; omega))
  have HRL := Lib.hid hrl
  have j2 : (n : Int) ≤ 8 := by omega
  clear hM5 hL6 hS6 HC15 hr2 hrl
  go_wp2_with fail
  refine (clone_any _ _ w6 HS6.out (by rw [List.length_take, HRL.out]; omega)).mono ?_
  rintro e w7 ⟨v7, rfl, hO7, hL7⟩
  have HO7 := Lib.hid (hO7.lower hs6)
  have HM7 := Lib.hid (below_more hM6 hL7 hs6)
  obtain ⟨A7, c7, e7⟩ := hO7.slB.form (L := n) (by rw [List.length_take, HRL.out]; omega)
  subst e7
  clear hO7 hL7 hM6
  go_wp2_with fail
  go_ret2
  exact ⟨_, rfl, by rw [HN.out]; exact HO7.out, by rw [HN.out]; exact HM7.out⟩
end Go.Proofs.Ytjbdhnmkeaogcaa
