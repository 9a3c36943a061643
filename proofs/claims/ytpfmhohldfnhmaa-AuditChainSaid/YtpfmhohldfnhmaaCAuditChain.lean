/- notes that are chained are checked; what a chain is saved as makes it, and it goes on from there as it would have -/
import Derived.Test.YtpfmhohldfnhmaaKAU1
import Derived.Test.YtpfmhohldfnhmaaKAU2
import Derived.Test.YtpfmhohldfnhmaaKB0
import Derived.WalkKit
import Derived.ProofKit
import Derived.OpenShut
import Derived.ShutString
import Derived.ChangeOld
import Derived.SizedLaws
import Derived.ChangeSlices
import Derived.Deep.Slices
import Derived.ChangeArms
import Derived.Test.YtpfmhohldfnhmaaRows
set_option linter.unusedVariables false
set_option linter.unusedSimpArgs false
namespace Go.Proofs.Ytpfmhohldfnhmaa
open Go Go.RowKit Lk
theorem rec_cases (l : List UInt8) : (∃ b1 b2 b3 b4 m2, l = 5 :: b1 :: b2 :: b3 :: b4 :: m2 ∧ m2.length = 16) ∨ (∃ t, l = 6 :: t ∧ 1 ≤ t.length ∧ t.length ≤ 60) ∨ ((l.length = 21 → g8 l 0 ≠ 5) ∧ (l.length < 2 ∨ 61 < l.length ∨ g8 l 0 ≠ 6)) := by
  by_cases h : l.length = 21 ∧ g8 l 0 = 5
  · obtain ⟨h1, h2⟩ := h
    match l, h1, h2 with
    | b :: b1 :: b2 :: b3 :: b4 :: m2, h1, h2 =>
      have hb : b = 5 := h2
      subst hb
      exact .inl ⟨b1, b2, b3, b4, m2, rfl, by simpa using h1⟩
  · by_cases h6 : 2 ≤ l.length ∧ l.length ≤ 61 ∧ g8 l 0 = 6
    · obtain ⟨h1, h2, h3⟩ := h6
      match l, h1, h2, h3 with
      | b :: t, h1, h2, h3 =>
        have hb : b = 6 := h3
        subst hb
        rw [List.length_cons] at h1 h2
        exact .inr (.inl ⟨t, rfl, by omega, by omega⟩)
    · refine .inr (.inr ⟨fun h1 h2 => h ⟨h1, h2⟩, ?_⟩)
      by_cases h1 : l.length < 2
      · exact .inl h1
      by_cases h2 : 61 < l.length
      · exact .inr (.inl h2)
      · exact .inr (.inr fun h3 => h6 ⟨by omega, by omega, h3⟩)
theorem Apply_refused (vk ve : Value) (z : Int) (m l : List UInt8) (w : World) (he : SlB w ve l) (hl : l.length ≤ 1000) (hm : m.length = 16) (h5 : l.length = 21 → g8 l 0 ≠ 5) (h6 : l.length < 2 ∨ 61 < l.length ∨ g8 l 0 ≠ 6) :
    Calls Try.prog 7 #[vk, .agg (ch z m), ve] w fun e w' => e = .returned (.tuple #[.agg (ch z m), .iface 49 (.int .i64 6)]) ∧ Below w.heap.size w w' := by
  by_cases h : 0 < l.length → g8 l 0 ≠ 6
  · exact Apply_bad vk ve z m l w he hl hm h5 h
  · have h0 : 0 < l.length := by
      rcases Nat.eq_zero_or_pos l.length with e | e
      · exact absurd (fun h' => absurd h' (by omega)) h
      · exact e
    have h1 : g8 l 0 = 6 := Classical.byContradiction fun hc => h (fun _ => hc)
    match l, h0, h1 with
    | b :: t, h0, h1 =>
      have hb : b = 6 := h1
      subst hb
      rw [List.length_cons] at h6 hl
      refine Apply_unnoted vk ve z m t w he (by omega) hm ?_
      rcases h6 with h6 | h6 | h6
      · exact .inl (by omega)
      · exact .inr (by omega)
      · exact absurd h1 h6
end Go.Proofs.Ytpfmhohldfnhmaa
set_option linter.unusedVariables false
set_option linter.unusedSimpArgs false
namespace Lk
open Go Go.RowKit
section
variable {P : Program} {ops : Array Oper} {o : Oper} {a : Act} {w : World}
theorem yields_ixs {S : World → Prop} (hw : Region.wanted o (yielded ops a.tmps) = true) (t : TypeId) (x y : Operand) (ho : o.op = .indexAddr t x y) (g k L c j : Nat) (hx : a.eval x = .slice (some ⟨g, k, none⟩) L c) (hy : a.eval y = .int .i64 (j : Int)) (hj : j < L)
    (hu : P.underlying t = some (.slice (P.elem t))) (hs : ∀ w : World, (sizeOf (P.elem t) : Sem Nat).run P w = .ok 1 w) : YieldsIf P ops S o (.pointer (some ⟨g, k + j, none⟩)) a := .inl ⟨hw, fun w _ => by
    unfold execOp
    simp only [ho, hx, hy]
    rw [Sem.run_bind, run_indexAt_slice w t _ _ _ _ _ hu, if_pos ⟨by omega, by omega⟩, hs, Result.andThen_ok, Int.toNat_natCast]
    have e : (⟨g, k, none⟩ : Addr).add (j * 1) = ⟨g, k + j, none⟩ := by rw [Nat.mul_one]; unfold Addr.add; split <;> simp_all
    rw [e]
    rfl⟩
end
end Lk
namespace Go.Proofs.Ytpfmhohldfnhmaa
open Go Go.RowKit Lk
theorem load_str1 (w : World) (ad : Addr) (u : Value) (h : w.cell? ad = some u) : (loadVar 9 ad : Sem Value).run Try.prog w = .ok u w := by
  simp [loadVar, go_sem, h]
theorem run_str1 (w : World) : (sizeOf (Try.prog.elem 23) : Sem Nat).run Try.prog w = .ok 1 w := by kernel_rfl
end Go.Proofs.Ytpfmhohldfnhmaa
set_option linter.unusedVariables false
set_option linter.unusedSimpArgs false
namespace Go.Proofs.Ytpfmhohldfnhmaa
open Go Go.RowKit Lk
set_option maxHeartbeats 12800000 in
set_option maxRecDepth 100000 in
theorem AH_f0 (vk vs : Value) (key : List UInt8) (ss : List ByteArray) (cut : UInt8) (w : World) (hk : SlB w vk key) (hs : SlS w vs ss) (b0 : ¬ key.length = 16) : Calls Try.prog 3 #[vk, vs, .int .u8 (bv cut)] w fun e w' => e = .returned (.bool true) ∧ Below w.heap.size w w' := by
  obtain ⟨N, hN⟩ : ∃ N, w.heap.size = N := ⟨_, rfl⟩
  have HN := Lib.hid hN
  obtain ⟨LK, hL⟩ : ∃ L, key.length = L := ⟨_, rfl⟩
  obtain ⟨Ak, ck, rfl, hck⟩ := hk.formc hL
  obtain ⟨LS, hLS⟩ : ∃ L, ss.length = L := ⟨_, rfl⟩
  have hs2 := hs
  obtain ⟨As, cs, rfl, hcs, hr⟩ := hs2
  rw [hL] at b0
  rw [hLS]
  have i0 : ¬ (LK : Int) = 16 := by omega
  have hM0 : Below N w w := Below.refl _ _
  have hs0 : N ≤ w.heap.size := by omega
  go_enter Try.func3, Try.ntmps3
  go_wp2_with (first | (go_at_call 6; (with_reducible show Calls _ _ _ w _); refine (awake23 w).mono ?_; rintro e w1 ⟨rfl, hL⟩; have hM1 : Below N w w1 := below_more hM0 hL hs0; have hs1 : N ≤ w1.heap.size := Nat.le_trans hs0 (hL).size; clear hM0 hs0; clear hL) | (go_at_call 6; (with_reducible show Calls _ _ _ w1 _); refine (awake23 w1).mono ?_; rintro e w2 ⟨rfl, hL⟩; have hM2 : Below N w w2 := below_more hM1 hL hs1; have hs2 : N ≤ w2.heap.size := Nat.le_trans hs1 (hL).size; clear hM1 hs1; clear hL))
  go_ret
  exact ⟨rfl, by first | exact hM2 | (rw [HN.out]; exact hM2)⟩
set_option maxHeartbeats 12800000 in
set_option maxRecDepth 100000 in
theorem AH_f1 (vk vs : Value) (key : List UInt8) (ss : List ByteArray) (cut : UInt8) (w : World) (hk : SlB w vk key) (hs : SlS w vs ss) (b0 : key.length = 16) (b1 : ¬ ss.length ≤ 20) : Calls Try.prog 3 #[vk, vs, .int .u8 (bv cut)] w fun e w' => e = .returned (.bool true) ∧ Below w.heap.size w w' := by
  obtain ⟨N, hN⟩ : ∃ N, w.heap.size = N := ⟨_, rfl⟩
  have HN := Lib.hid hN
  obtain ⟨LK, hL⟩ : ∃ L, key.length = L := ⟨_, rfl⟩
  obtain ⟨Ak, ck, rfl, hck⟩ := hk.formc hL
  obtain ⟨LS, hLS⟩ : ∃ L, ss.length = L := ⟨_, rfl⟩
  have hs2 := hs
  obtain ⟨As, cs, rfl, hcs, hr⟩ := hs2
  rw [hL] at b0
  rw [hLS]
  obtain rfl : LK = 16 := b0
  rw [hLS] at b1
  have i1 : decide ((20 : Int) < (LS : Int)) = true := by simp; omega
  have hM0 : Below N w w := Below.refl _ _
  have hs0 : N ≤ w.heap.size := by omega
  go_enter Try.func3, Try.ntmps3
  go_wp2_with (first | (go_at_call 6; (with_reducible show Calls _ _ _ w _); refine (awake23 w).mono ?_; rintro e w1 ⟨rfl, hL⟩; have hM1 : Below N w w1 := below_more hM0 hL hs0; have hs1 : N ≤ w1.heap.size := Nat.le_trans hs0 (hL).size; clear hM0 hs0; clear hL) | (go_at_call 6; (with_reducible show Calls _ _ _ w1 _); refine (awake23 w1).mono ?_; rintro e w2 ⟨rfl, hL⟩; have hM2 : Below N w w2 := below_more hM1 hL hs1; have hs2 : N ≤ w2.heap.size := Nat.le_trans hs1 (hL).size; clear hM1 hs1; clear hL))
  go_ret
  exact ⟨rfl, by first | exact hM2 | (rw [HN.out]; exact hM2)⟩
theorem pnum_val (n : Nat) (h : n < 4294967296) {a b c d : UInt8} (hp : pnum n = [a, b, c, d]) : bv a * 16777216 + bv b * 65536 + bv c * 256 + bv d = (n : Int) := by
  unfold pnum at hp
  injection hp with h1 hp
  injection hp with h2 hp
  injection hp with h3 hp
  injection hp with h4 hp
  subst h1 h2 h3 h4
  unfold bv
  simp only [UInt8.toNat_ofNat']
  omega
set_option maxHeartbeats 12800000 in
set_option maxRecDepth 100000 in
theorem AH_main (vk vs : Value) (key : List UInt8) (ss : List ByteArray) (cut : UInt8) (w : World) (hk : SlB w vk key) (hs : SlS w vs ss) (b0 : key.length = 16) (b1 : ss.length ≤ 20) : Calls Try.prog 3 #[vk, vs, .int .u8 (bv cut)] w fun e w' => e = .returned (.bool true) ∧ Below w.heap.size w w' := by
  obtain ⟨N, hN⟩ : ∃ N, w.heap.size = N := ⟨_, rfl⟩
  have HN := Lib.hid hN
  obtain ⟨LK, hL⟩ : ∃ L, key.length = L := ⟨_, rfl⟩
  obtain ⟨Ak, ck, rfl, hck⟩ := hk.formc hL
  obtain ⟨LS, hLS⟩ : ∃ L, ss.length = L := ⟨_, rfl⟩
  have hs2 := hs
  obtain ⟨As, cs, rfl, hcs, hr⟩ := hs2
  have HR0 := Lib.hid hr
  have hsx := hs
  rw [hLS] at b1 hr HR0 ⊢
  obtain rfl : LK = 16 := by rw [← hL]; exact b0
  have HKL := Lib.hid hL
  have HK := Lib.hid (fun (w' : World) (hw' : Below N w w') => hk.below (by rw [hN]; exact hw'))
  have HSS := Lib.hid (fun (w' : World) (hw' : Below N w w') => (show SlS w' (.slice As LS cs) ss from by have h := hsx.below (w1 := w') (by rw [hN]; exact hw'); rw [hLS] at h; exact h))
  have ELS := Lib.hid hLS
  have HL20 := Lib.hid b1
  obtain ⟨M, eM⟩ : ∃ M, pmarks key ss 0 (List.replicate 16 0) = M := ⟨_, rfl⟩
  have EM := Lib.hid eM
  have HMM := Lib.hid (show M.length = 16 by rw [← eM]; exact pmarks_len key ss 0 _ (by simp))
  have HBT := Lib.hid (show (((ss.length : Nat) : Int) == (LS : Int) && pmarks key ss 0 (List.replicate 16 0) == M) = true by rw [hLS, eM]; simp)
  have i1 : decide ((20 : Int) < (LS : Int)) = false := by simp; omega
  have i2 : ¬ (LS : Int) + 1 = 0 := by omega
  clear hsx hs hr eM b0 hk hcs
  have hM0 : Below N w w := Below.refl _ _
  have hs0 : N ≤ w.heap.size := by omega
  go_enter Try.func3, Try.ntmps3
  go_wp2_with (first | (go_at_call 6; (with_reducible show Calls _ _ _ w _); refine (awake23 w).mono ?_; rintro e w1 ⟨rfl, hL⟩; have hM1 : Below N w w1 := below_more hM0 hL hs0; have hs1 : N ≤ w1.heap.size := Nat.le_trans hs0 (hL).size; clear hM0 hs0; clear hL) | ((with_reducible show wpList _ _ _ _ _ w1); refine op_bld0 (w := w1) (by rfl) cht rfl (.agg (ch 0 (List.replicate 16 0))) bld_ch0 ?_) | ((with_reducible show wpList _ _ _ _ _ w1); refine alloc_row (w := w1) rfl 27 rfl (.agg (ch 0 (List.replicate 16 0))) 17 (fun _ => by kernel_rfl) (by kernel_rfl) ?_; intro wa hRa _ hGa hza) | ((with_reducible show wpList _ _ _ _ _ wa); refine store_ch (w := wa) rfl 27 _ _ rfl w1.heap.size 27 0 (List.replicate 16 0) (by rfl) (by rfl) hRa (by decide) (by kernel_rfl) ?_; intro w2 hBb hGb hzb; have hL : Below w1.heap.size w1 w2 := below_new (below_none (Below.refl _ _) (Nat.le_refl _) hGa) hGa.size hGb (Nat.le_refl _); obtain ⟨GA, eGx⟩ : ∃ g, w1.heap.size = g := ⟨_, rfl⟩; have hgB : ChB w2 GA 27 0 (List.replicate 16 0) := (by rw [← eGx]; exact hBb); have HLGA := Lib.hid (show N ≤ GA from (by rw [← eGx]; exact hs1)); have HNA := Lib.hid (show N ≤ GA from (by rw [← eGx]; exact hs1)); rw [eGx]; clear hRa hGa hza hBb hGb hzb eGx; have hM2 : Below N w w2 := below_more hM1 hL hs1; have hs2 : N ≤ w2.heap.size := Nat.le_trans hs1 (hL).size; clear hM1 hs1; have A_2 := Lib.hid (hgB); clear hL hgB) | ((with_reducible show wpList _ _ _ _ _ w2); refine op_bld0 (w := w2) (by rfl) cht rfl (.agg (ch 0 (List.replicate 16 0))) bld_ch0 ?_) | ((with_reducible show wpList _ _ _ _ _ w2); refine alloc_row (w := w2) rfl 27 rfl (.agg (ch 0 (List.replicate 16 0))) 17 (fun _ => by kernel_rfl) (by kernel_rfl) ?_; intro wa hRa _ hGa hza) | ((with_reducible show wpList _ _ _ _ _ wa); refine store_ch (w := wa) rfl 27 _ _ rfl w2.heap.size 27 0 (List.replicate 16 0) (by rfl) (by rfl) hRa (by decide) (by kernel_rfl) ?_; intro w3 hBb hGb hzb; have hL : Below w2.heap.size w2 w3 := below_new (below_none (Below.refl _ _) (Nat.le_refl _) hGa) hGa.size hGb (Nat.le_refl _); obtain ⟨GB, eGx⟩ : ∃ g, w2.heap.size = g := ⟨_, rfl⟩; have hgB : ChB w3 GB 27 0 (List.replicate 16 0) := (by rw [← eGx]; exact hBb); have HLGB := Lib.hid (show N ≤ GB from (by rw [← eGx]; exact hs2)); have HAB := Lib.hid (show GA < GB from (by rw [← eGx]; exact A_2.out.lt)); have HNB := Lib.hid (show N ≤ GB from (by rw [← eGx]; exact hs2)); rw [eGx]; clear hRa hGa hza hBb hGb hzb eGx; have hM3 : Below N w w3 := below_more hM2 hL hs2; have hs3 : N ≤ w3.heap.size := Nat.le_trans hs2 (hL).size; have A_3 := Lib.hid (A_2.out.under hL); clear A_2; clear hM2 hs2; have B_3 := Lib.hid (hgB); clear hL hgB))
  have hA0 : ChB w3 GA 27 ((0 : Nat) : Int) (pmarks key (ss.take 0) 0 (List.replicate 16 0)) := A_3.out
  have hB0 : ChB w3 GB 27 ((0 : Nat) : Int) (pmarks key (ss.take 0) 0 (List.replicate 16 0)) := B_3.out
  have hM0 := hM3
  have hs0 := hs3
  clear A_3 B_3
  clear hM3 hs3
  obtain ⟨kc, ekc⟩ : ∃ x : Int, (wrap64 (bv cut)).tmod ((LS : Int) + 1) = x := ⟨_, rfl⟩
  rw [ekc]
  clear ekc
  go_loopw [10] (fun i wr => ∃ k : Nat, k ≤ LS ∧ i = .int .i64 k ∧ (∀ j, j < k → okNote (gs ss j) = true) ∧ ChB wr GA 27 (k : Int) (pmarks key (ss.take k) 0 (List.replicate 16 0)) ∧ ChB wr GB 27 (k : Int) (pmarks key (ss.take k) 0 (List.replicate 16 0)) ∧ Below N w wr ∧ N ≤ wr.heap.size) (fun i _ => LS - (intOf i).toNat)
  case atStart => exact ⟨0, by omega, rfl, fun j hj => by omega, hA0, hB0, hM0, hs0⟩
  case round =>
    clear hA0 hB0 hM0 hs0
    obtain ⟨k, hk, rfl, hok, hA9, hB9, hM9, hs9⟩ := hrel
    by_cases hlt : k < LS
    · obtain ⟨g, o, rfl, hrd⟩ := HR0.out (by omega)
      have hgN : g < N := by rw [← hN]; exact block_of_cell (hrd 0 (by omega))
      obtain ⟨s, ess⟩ : ∃ s, gs ss k = s := ⟨_, rfl⟩
      have ESS := Lib.hid ess
      have HCell := Lib.hid (fun (wq : World) (hq : Below N w wq) => show wq.cell? ⟨g, o + k, none⟩ = some (.string s) by rw [← ess]; exact cell_below (hrd k hlt) hq hgN)
      have c1 := HCell.out wr hM9
      have HLT := Lib.hid hlt
      clear hrd
      by_cases h0 : s.size = 0
      · obtain rfl : s = ByteArray.empty := ByteArray.size_eq_zero_iff.1 h0
        have HM9 := Lib.hid hM9
        clear hA9 hB9 hok hM9 h0 ess
        go_wp2
        go_ret
        exact ⟨rfl, by first | exact HM9.out | (rw [HN.out]; exact HM9.out)⟩
      have n0 : ¬ (s.size : Int) = 0 := by omega
      have n0c : ((s.size : Int) == 0) = false := beq_eq_false_iff_ne.2 (by omega)
      have n0b : ¬ s = ByteArray.empty := fun e => by rw [e] at h0; exact absurd h0 (by decide)
      by_cases h6 : s.size ≤ 60
      · have n6 : decide ((60 : Int) < (s.size : Int)) = false := by simp; omega
        have HS1 := Lib.hid (show 1 ≤ s.size by omega)
        have HS2 := Lib.hid h6
        have HOKk := Lib.hid (show okNote s = true by unfold okNote; simp; omega)
        have HOKb := Lib.hid hok
        obtain ⟨mk, emk⟩ : ∃ x, (pmarks key (ss.take k) 0 (List.replicate 16 0)) = x := ⟨_, rfl⟩
        have HMK := Lib.hid (show mk.length = 16 by rw [← emk]; exact pmarks_len key _ 0 _ (by simp))
        have EMK := Lib.hid emk
        rw [emk] at hA9 hB9
        obtain ⟨mn, emn⟩ : ∃ x, pcmac 1 key (mk ++ pnum (k + 1) ++ sb s) = x := ⟨_, rfl⟩
        have HMN := Lib.hid (show mn.length = 16 by rw [← emn]; exact pcmac_len 1 key _ (.inl rfl))
        have EMN := Lib.hid emn
        have HX := Lib.hid (fun (w' : World) (hw' : Below N w w') => show Calls Try.prog 10 #[(.slice Ak 16 ck), .agg (ch (k : Int) mk), .string s] w' fun e w'' => e = .returned (.tuple #[.agg (ch ((k + 1 : Nat) : Int) mn), .nilIface]) ∧ Below w'.heap.size w' w'' from by have h := Next_yes (.slice Ak 16 ck) key k mk s w' (HK.out w' hw') HKL.out (by have := HLT.out; have := HL20.out; omega) HMK.out HS1.out HS2.out; rw [emn] at h; exact h)
        have HAp := Lib.hid (fun (v : Value) (w' : World) (hw' : Below N w w') (hv : SlB w' v (6 :: sb s)) => show Calls Try.prog 7 #[(.slice Ak 16 ck), .agg (ch (k : Int) mk), v] w' fun e w'' => e = .returned (.tuple #[.agg (ch ((k + 1 : Nat) : Int) mn), .nilIface]) ∧ Below w'.heap.size w' w'' from Apply_note (.slice Ak 16 ck) v .nilIface (k : Int) _ mk mn (sb s) w' hv HMK.out HMN.out (by rw [sb_len]; exact HS1.out) (by rw [sb_len]; exact HS2.out) fun w'' hw'' => by rw [bs_sb]; exact HX.out w'' (below_more hw' hw'' (by have := hw'.size; have := HN.out; omega)))
        have HK4 := Lib.hid (show k ≤ 4294967296 by have := HL20.out; omega)
        obtain ⟨p1, p2, p3, p4, hp⟩ : ∃ a b c d, pnum k = [a, b, c, d] := ⟨_, _, _, _, rfl⟩
        have PN := Lib.hid (show (5 :: (pnum k ++ mk)) = 5 :: p1 :: p2 :: p3 :: p4 :: mk by rw [hp]; rfl)
        have PV := Lib.hid (pnum_val k (by have := HL20.out; omega) hp)
        clear emn emk hok hp h0 h6 ess
        by_cases hkc : (k : Int) = kc
        · have hkb : ((k : Int) == kc) = true := beq_iff_eq.2 hkc
          clear hkc
          have A_100 := Lib.hid hA9
          have B_100 := Lib.hid hB9
          have hM100 := hM9
          have hs100 := hs9
          clear hA9 hB9 hM9 hs9
          go_wp2_with (first | ((with_reducible show wpList _ _ _ _ _ wr); refine load_ch (w := wr) (by rfl) _ rfl GB 27 (k : Int) mk (by rfl) B_100.out HMK.out ?_) | ((with_reducible show wpList _ _ _ _ _ wr); refine op_bld1 (w := wr) rfl cht _ rfl (.agg (ch 7 (List.replicate 16 0))) (.int .i64 7) rfl (fun w => by kernel_rfl) ?_) | (go_at_call 8; (with_reducible show Calls _ _ _ wr _); refine (Save_any k mk wr HK4.out HMK.out).mono ?_; rintro e w101 ⟨vv, rfl, hO, hL⟩; have hS := hO.slB; rw [PN.out] at hS; have hM101 : Below N w w101 := below_more hM100 hL hs100; have hs101 : N ≤ w101.heap.size := Nat.le_trans hs100 (hL).size; have A_101 := Lib.hid (A_100.out.under hL); clear A_100; have B_101 := Lib.hid (B_100.out.under hL); clear B_100; clear hM100 hs100; have S_101 := Lib.hid (hS); clear hO hL hS) | (go_at_call 7; (with_reducible show Calls _ _ _ w101 _); refine (Apply_save _ _ 7 (List.replicate 16 0) mk p1 p2 p3 p4 w101 S_101.out (by simp) HMK.out).mono ?_; rintro e w102c ⟨he9, hLc⟩; rw [PV.out] at he9; subst he9) | ((with_reducible show wpList _ _ _ _ _ w102c); refine alloc_row (w := w102c) rfl 27 rfl (.agg (ch 0 (List.replicate 16 0))) 17 (fun _ => by kernel_rfl) (by kernel_rfl) ?_; intro w102a hRa _ hGa hza) | ((with_reducible show wpList _ _ _ _ _ w102a); refine store_ch (w := w102a) rfl 27 _ _ rfl w102c.heap.size 27 (k : Int) mk (by rfl) (by rfl) hRa HMK.out (by kernel_rfl) ?_; intro w102 hBb hGb hzb; have hL9 : Below w102c.heap.size w102c w102 := below_new (below_none (Below.refl _ _) (Nat.le_refl _) hGa) hGa.size hGb (Nat.le_refl _); have hL : Below w101.heap.size w101 w102 := below_more hLc hL9 hLc.size; obtain ⟨GD, eGx⟩ : ∃ g, w102c.heap.size = g := ⟨_, rfl⟩; have hgB : ChB w102 GD 27 (k : Int) mk := (by rw [← eGx]; exact hBb); have HLGD := Lib.hid (show N ≤ GD from (by rw [← eGx]; exact Nat.le_trans hs101 hLc.size)); rw [eGx]; clear hRa hGa hza hBb hGb hzb hLc eGx hL9; have hM102 : Below N w w102 := below_more hM101 hL hs101; have hs102 : N ≤ w102.heap.size := Nat.le_trans hs101 (hL).size; have A_102 := Lib.hid (A_101.out.under hL); clear A_101; have B_102 := Lib.hid (B_101.out.under hL); clear B_101; have S_102 := Lib.hid (S_101.out.below hL); clear S_101; clear hM101 hs101; have D_102 := Lib.hid (hgB); clear hL hgB) | ((with_reducible show wpList _ _ _ _ _ w102); refine load_ch (w := w102) (by rfl) _ rfl GD 27 (k : Int) mk (by rfl) D_102.out HMK.out ?_) | ((with_reducible show wpList _ _ _ _ _ w102); refine load_ch (w := w102) (by rfl) _ rfl GB 27 (k : Int) mk (by rfl) B_102.out HMK.out ?_) | ((with_reducible show wpList _ _ _ _ _ w102); refine op_neqg (w := w102) (by rfl) cht _ _ _ rfl (ch (k : Int) mk) (ch (k : Int) mk) (by rfl) (by rfl) (by kernel_rfl) false (fun w => (run_neq_ch w _ _ _ _ HMK.out HMK.out).trans (by simp)) ?_) | ((with_reducible show wpList _ _ _ _ _ w102); refine load_ch (w := w102) (by rfl) _ rfl GD 27 (k : Int) mk (by rfl) D_102.out HMK.out ?_) | ((with_reducible show wpList _ _ _ _ _ w102); refine store_ch (w := w102) rfl 27 _ _ rfl GB 27 (k : Int) mk (by rfl) (by rfl) (B_102.out.row HMK.out) HMK.out (by kernel_rfl) ?_; intro w103 hB hG hz; have hM103 : Below N w w103 := below_new hM102 hs102 hG HNB.out; have hs103 : N ≤ w103.heap.size := (by rw [hz]; exact hs102); have A_103 := Lib.hid (A_102.out.old hG (by have := HAB.out; simp; omega)); have B_103 := Lib.hid hB; clear A_102 B_102 S_102 D_102 hM102 hs102 hB hG hz; have c1 := HCell.out w103 hM103) | (go_at_call 9; (with_reducible show Calls _ _ _ w103 _); refine (Note_yes s w103 HS1.out HS2.out).mono ?_; rintro e w104 ⟨vn, rfl, hO, hL⟩; have hS := hO.slB; have hM104 : Below N w w104 := below_more hM103 hL hs103; have hs104 : N ≤ w104.heap.size := Nat.le_trans hs103 (hL).size; have A_104 := Lib.hid (A_103.out.under hL); clear A_103; have B_104 := Lib.hid (B_103.out.under hL); clear B_103; clear hM103 hs103; have S_104 := Lib.hid (hS); clear hO hL hS))
          try clear c1
          obtain ⟨MR, eMR⟩ : ∃ M, w104.heap.size = M := ⟨_, rfl⟩
          have HSM := Lib.hid (show ∀ wq, Below MR w104 wq → Below w104.heap.size w104 wq from fun wq h => by rw [eMR]; exact h)
          have hS : Below MR w104 w104.drew := ⟨rfl, rfl, rfl, Nat.le_refl _, fun _ _ => rfl⟩
          have HAk := Lib.hid (show ∀ wq, Below MR w104 wq → ChB wq GA 27 (k : Int) mk from fun wq h => A_104.out.under (HSM.out wq h))
          have HMw := Lib.hid hM104
          have HSw := Lib.hid hs104
          have HWk := Lib.hid (show ∀ wq, Below MR w104 wq → Below N w wq from fun wq h => below_more HMw.out (HSM.out wq h) HSw.out)
          have HMR := Lib.hid eMR
          refine wp_region_held (S := fun wq => Below MR w104 wq) (by kernel_rfl) ?_
          show wpAnyH _ _ _ _ _ 13 _ _ w104.drew
          refine anyH_tk (i := 0) (some 88) rfl (by kernel_rfl) (by kernel_rfl) (by kernel_rfl) (by kernel_rfl) (fun _ _ _ h => h) (yields_val (by kernel_rfl) ((.slice Ak 16 ck)) (fun w => by kernel_rfl)) hS ?_
          refine anyH_tk (i := 1) (some 89) rfl (by kernel_rfl) (by kernel_rfl) (by kernel_rfl) (by kernel_rfl) (fun _ _ _ h => h) (yields_chain (by kernel_rfl) _ rfl GA 27 (k : Int) mk (by kernel_rfl) (fun wq hq => HAk.out wq hq) HMK.out) hS ?_
          refine anyH_tk (i := 2) (some 90) rfl (by kernel_rfl) (by kernel_rfl) (by kernel_rfl) (by kernel_rfl) (fun _ _ _ h => h) (yields_val (by kernel_rfl) (.slice (some ⟨g, o, none⟩) LS cs) (fun w => by kernel_rfl)) hS ?_
          refine anyH_tk (i := 3) (some 91) rfl (by kernel_rfl) (by kernel_rfl) (by kernel_rfl) (by kernel_rfl) (fun _ _ _ h => h) (yields_val (by kernel_rfl) (.int .i64 (k : Int)) (fun w => by kernel_rfl)) hS ?_
          refine anyH_tk (i := 4) (some 92) rfl (by kernel_rfl) (by kernel_rfl) (by kernel_rfl) (by kernel_rfl) (fun _ _ _ h => h) (yields_ixs (by kernel_rfl) 23 _ _ rfl g o LS cs k (by kernel_rfl) (by kernel_rfl) HLT.out (by kernel_rfl) (fun w => run_str1 w)) hS ?_
          refine anyH_tk (i := 5) (some 93) rfl (by kernel_rfl) (by kernel_rfl) (by kernel_rfl) (by kernel_rfl) (fun _ _ _ h => h) (yields_cell (by kernel_rfl) (.string s) 9 _ rfl ⟨g, o + k, none⟩ (by kernel_rfl) (fun w h => load_str1 w _ _ h) (fun wq hq => HCell.out wq (HWk.out wq hq))) hS ?_
          refine wpAnyH_all (rs := [6, 10]) (by kernel_rfl) (by decide) ?_
          intro i hi
          simp only [List.mem_cons, List.not_mem_nil, or_false] at hi
          rcases hi with rfl | rfl
          · refine OpHd.h ?_
            refine opH_enter (some 94) rfl (by kernel_rfl) (by kernel_rfl) 10 #[(.slice Ak 16 ck), .agg (ch (k : Int) mk), .string s] (fun v wq => v = .tuple #[.agg (ch ((k + 1 : Nat) : Int) mn), .nilIface] ∧ Below w104.drew.heap.size w104.drew wq) (by kernel_rfl) ((HX.out w104.drew (HWk.out w104.drew hS)).mono fun e wq ⟨q1, q2⟩ => ⟨_, q1, rfl, q2⟩) ?_
            rintro v9 v1 ⟨rfl, hL⟩
            have hS : Below MR w104 v1 := below_more hS hL (by have := hS.size; have := HMR.out; omega)
            refine ⟨hS, ?_⟩
            refine anyH_tk (i := 7) (some 87) rfl (by kernel_rfl) (by kernel_rfl) (by kernel_rfl) (by kernel_rfl) (fun _ _ _ h => h) (yields_val (by kernel_rfl) (.tuple #[.agg (ch ((k + 1 : Nat) : Int) mn), .nilIface]) (fun w => by kernel_rfl)) hS ?_
            refine anyH_tk (i := 8) (some 95) rfl (by kernel_rfl) (by kernel_rfl) (by kernel_rfl) (by kernel_rfl) (fun _ _ _ h => h) (yields_val (by kernel_rfl) (.agg (ch ((k + 1 : Nat) : Int) mn)) (fun w => by kernel_rfl)) hS ?_
            refine anyH_tk (i := 9) (some 96) rfl (by kernel_rfl) (by kernel_rfl) (by kernel_rfl) (by kernel_rfl) (fun _ _ _ h => h) (yields_val (by kernel_rfl) (.nilIface) (fun w => by kernel_rfl)) hS ?_
            refine wpAnyH_all (rs := [10]) (by kernel_rfl) (by decide) ?_
            intro i hi
            obtain rfl : i = 10 := by simpa using hi
            refine wpOp_alloc rfl (by kernel_rfl) 27 rfl (.agg (ch 0 (List.replicate 16 0))) 17 (fun _ => by kernel_rfl) (by kernel_rfl) ?_
            intro v2 hRx hGa hza
            obtain ⟨gx, egx⟩ : ∃ g, v1.heap.size = g := ⟨_, rfl⟩
            rw [egx] at hRx ⊢
            have hgx : MR ≤ gx := by have := hS.size; have := HMR.out; omega
            have hS : Below MR w104 v2 := below_none hS (by have := hS.size; have := HMR.out; omega) hGa
            refine ⟨hS, ?_⟩
            refine wpAnyH_all (rs := [11]) (by kernel_rfl) (by decide) ?_
            intro i hi
            obtain rfl : i = 11 := by simpa using hi
            refine wpOp_store_ch rfl (by kernel_rfl) 27 _ _ rfl gx 27 ((k + 1 : Nat) : Int) mn (by kernel_rfl) (by kernel_rfl) hRx HMN.out (by kernel_rfl) ?_
            intro wq hBx hGx hzx
            have hS : Below MR w104 wq := below_new hS (by have := hS.size; have := HMR.out; omega) hGx hgx
            refine ⟨hS, ?_⟩
            refine anyH_tk (i := 12) (some 16) rfl (by kernel_rfl) (by kernel_rfl) (by kernel_rfl) (by kernel_rfl) (fun _ _ _ h => h) (yields_val (by kernel_rfl) (.nilIface) (fun w => by kernel_rfl)) hS ?_
            refine wpAnyH_done (by kernel_rfl) ?_ _
            simp only [Act.put, List.getElem_toArray, List.getElem_cons_succ, List.getElem_cons_zero, List.setIfInBounds_toArray, List.set_cons_succ, List.set_cons_zero]
            have hL := HSM.out wq hS
            have hX9 : ChB wq gx 27 ((k + 1 : Nat) : Int) mn := hBx
            have HGX := Lib.hid (show GA < gx ∧ GB < gx from by have h1 := A_104.out.lt; have h2 := B_104.out.lt; have h3 := HMR.out; omega)
            have A_200 := Lib.hid (A_104.out.under hL)
            have B_200 := Lib.hid (B_104.out.under hL)
            have S_200 := Lib.hid (S_104.out.below hL)
            have X_200 := Lib.hid hX9
            have hM200 := below_more HMw.out hL HSw.out
            have hs200 : N ≤ wq.heap.size := Nat.le_trans HSw.out hL.size
            clear hX9 hL hS hBx hGx hzx hRx hgx HSM HAk HWk HMR
            go_wp2_with (first | ((with_reducible show wpList _ _ _ _ _ wq); refine load_ch (w := wq) (by rfl) _ rfl GB 27 (k : Int) mk (by rfl) B_200.out HMK.out ?_) | (go_at_call 7; (with_reducible show Calls _ _ _ wq _); refine (HAp.out _ wq hM200 S_200.out).mono ?_; rintro e w201c ⟨rfl, hLc⟩) | ((with_reducible show wpList _ _ _ _ _ w201c); refine alloc_row (w := w201c) rfl 27 rfl (.agg (ch 0 (List.replicate 16 0))) 17 (fun _ => by kernel_rfl) (by kernel_rfl) ?_; intro w201a hRa _ hGa hza) | ((with_reducible show wpList _ _ _ _ _ w201a); refine store_ch (w := w201a) rfl 27 _ _ rfl w201c.heap.size 27 ((k + 1 : Nat) : Int) mn (by rfl) (by rfl) hRa HMN.out (by kernel_rfl) ?_; intro w201 hBb hGb hzb; have hL9 : Below w201c.heap.size w201c w201 := below_new (below_none (Below.refl _ _) (Nat.le_refl _) hGa) hGa.size hGb (Nat.le_refl _); have hL : Below wq.heap.size wq w201 := below_more hLc hL9 hLc.size; obtain ⟨GY, eGx⟩ : ∃ g, w201c.heap.size = g := ⟨_, rfl⟩; have hgB : ChB w201 GY 27 ((k + 1 : Nat) : Int) mn := (by rw [← eGx]; exact hBb); have HLGY := Lib.hid (show N ≤ GY from (by rw [← eGx]; exact Nat.le_trans hs200 hLc.size)); rw [eGx]; have HYG := Lib.hid (show GA < GY ∧ GB < GY from (by have h1 := A_200.out.lt; have h3 := B_200.out.lt; have h2 := hLc.size; omega)); clear hRa hGa hza hBb hGb hzb hLc eGx hL9; have hM201 : Below N w w201 := below_more hM200 hL hs200; have hs201 : N ≤ w201.heap.size := Nat.le_trans hs200 (hL).size; have A_201 := Lib.hid (A_200.out.under hL); clear A_200; have B_201 := Lib.hid (B_200.out.under hL); clear B_200; have X_201 := Lib.hid (X_200.out.under hL); clear X_200; have S_201 := Lib.hid (S_200.out.below hL); clear S_200; clear hM200 hs200; have Y_201 := Lib.hid (hgB); clear hL hgB) | ((with_reducible show wpList _ _ _ _ _ w201); refine load_ch (w := w201) (by rfl) _ rfl gx 27 ((k + 1 : Nat) : Int) mn (by rfl) X_201.out HMN.out ?_) | ((with_reducible show wpList _ _ _ _ _ w201); refine load_ch (w := w201) (by rfl) _ rfl GY 27 ((k + 1 : Nat) : Int) mn (by rfl) Y_201.out HMN.out ?_) | ((with_reducible show wpList _ _ _ _ _ w201); refine op_neqg (w := w201) (by rfl) cht _ _ _ rfl (ch ((k + 1 : Nat) : Int) mn) (ch ((k + 1 : Nat) : Int) mn) (by rfl) (by rfl) (by kernel_rfl) false (fun w => (run_neq_ch w _ _ _ _ HMN.out HMN.out).trans (by simp)) ?_) | ((with_reducible show wpList _ _ _ _ _ w201); refine load_ch (w := w201) (by rfl) _ rfl gx 27 ((k + 1 : Nat) : Int) mn (by rfl) X_201.out HMN.out ?_) | ((with_reducible show wpList _ _ _ _ _ w201); refine store_ch (w := w201) rfl 27 _ _ rfl GA 27 ((k + 1 : Nat) : Int) mn (by rfl) (by rfl) (A_201.out.row HMK.out) HMN.out (by kernel_rfl) ?_; intro wa hA1 hGa hza; have hY1 := Y_201.out.old hGa (by have := HYG.out; simp; omega); have hB1 := B_201.out.old hGa (by have := HAB.out; simp; omega); have hMa : Below N w wa := below_new hM201 hs201 hGa HNA.out; have hsa : N ≤ wa.heap.size := (by rw [hza]; exact hs201)) | ((with_reducible show wpList _ _ _ _ _ wa); refine load_ch (w := wa) (by rfl) _ rfl GY 27 ((k + 1 : Nat) : Int) mn (by rfl) hY1 HMN.out ?_) | ((with_reducible show wpList _ _ _ _ _ wa); refine store_ch (w := wa) rfl 27 _ _ rfl GB 27 ((k + 1 : Nat) : Int) mn (by rfl) (by rfl) (hB1.row HMK.out) HMN.out (by kernel_rfl) ?_; intro wb hB2 hGb hzb))
            have hA2 := hA1.old hGb (by have := HAB.out; simp; omega)
            have hMb : Below N w wb := below_new hMa hsa hGb HNB.out
            have hsb : N ≤ wb.heap.size := by rw [hzb]; exact hsa
            have hE : mn = pmarks key (ss.take (k + 1)) 0 (List.replicate 16 0) := by rw [pmarks_take key _ ss k (by rw [ELS.out]; exact HLT.out), EMK.out]; unfold pmark; rw [ESS.out]; exact EMN.out.symm
            rw [hE] at hA2 hB2
            refine ⟨⟨k + 1, HLT.out, by go_num, ?_, hA2, hB2, hMb, hsb⟩, by have : k < LS := HLT.out; simp [intOf]; omega⟩
            intro j hj
            by_cases ej : j = k
            · rw [ej, ESS.out]; exact HOKk.out
            · exact HOKb.out j (by omega)
          · refine wpOp_alloc rfl (by kernel_rfl) 27 rfl (.agg (ch 0 (List.replicate 16 0))) 17 (fun _ => by kernel_rfl) (by kernel_rfl) ?_
            intro v1 hRx hGa hza
            obtain ⟨gx, egx⟩ : ∃ g, w104.drew.heap.size = g := ⟨_, rfl⟩
            rw [egx] at hRx ⊢
            have hgx : MR ≤ gx := by have := hS.size; have := HMR.out; omega
            have hS : Below MR w104 v1 := below_none hS (by have := hS.size; have := HMR.out; omega) hGa
            refine ⟨hS, ?_⟩
            refine anyH_one 6 (by kernel_rfl) ?_
            refine opH_enter (some 94) rfl (by kernel_rfl) (by kernel_rfl) 10 #[(.slice Ak 16 ck), .agg (ch (k : Int) mk), .string s] (fun v wq => v = .tuple #[.agg (ch ((k + 1 : Nat) : Int) mn), .nilIface] ∧ Below v1.heap.size v1 wq) (by kernel_rfl) ((HX.out v1 (HWk.out v1 hS)).mono fun e wq ⟨q1, q2⟩ => ⟨_, q1, rfl, q2⟩) ?_
            rintro v9 v2 ⟨rfl, hL⟩
            have hRx := hRx.below hL hRx.lt
            have hS : Below MR w104 v2 := below_more hS hL (by have := hS.size; have := HMR.out; omega)
            refine ⟨hS, ?_⟩
            refine anyH_tk (i := 7) (some 87) rfl (by kernel_rfl) (by kernel_rfl) (by kernel_rfl) (by kernel_rfl) (fun _ _ _ h => h) (yields_val (by kernel_rfl) (.tuple #[.agg (ch ((k + 1 : Nat) : Int) mn), .nilIface]) (fun w => by kernel_rfl)) hS ?_
            refine anyH_tk (i := 8) (some 95) rfl (by kernel_rfl) (by kernel_rfl) (by kernel_rfl) (by kernel_rfl) (fun _ _ _ h => h) (yields_val (by kernel_rfl) (.agg (ch ((k + 1 : Nat) : Int) mn)) (fun w => by kernel_rfl)) hS ?_
            refine anyH_tk (i := 9) (some 96) rfl (by kernel_rfl) (by kernel_rfl) (by kernel_rfl) (by kernel_rfl) (fun _ _ _ h => h) (yields_val (by kernel_rfl) (.nilIface) (fun w => by kernel_rfl)) hS ?_
            refine wpAnyH_all (rs := [11]) (by kernel_rfl) (by decide) ?_
            intro i hi
            obtain rfl : i = 11 := by simpa using hi
            refine wpOp_store_ch rfl (by kernel_rfl) 27 _ _ rfl gx 27 ((k + 1 : Nat) : Int) mn (by kernel_rfl) (by kernel_rfl) hRx HMN.out (by kernel_rfl) ?_
            intro wq hBx hGx hzx
            have hS : Below MR w104 wq := below_new hS (by have := hS.size; have := HMR.out; omega) hGx hgx
            refine ⟨hS, ?_⟩
            refine anyH_tk (i := 12) (some 16) rfl (by kernel_rfl) (by kernel_rfl) (by kernel_rfl) (by kernel_rfl) (fun _ _ _ h => h) (yields_val (by kernel_rfl) (.nilIface) (fun w => by kernel_rfl)) hS ?_
            refine wpAnyH_done (by kernel_rfl) ?_ _
            simp only [Act.put, List.getElem_toArray, List.getElem_cons_succ, List.getElem_cons_zero, List.setIfInBounds_toArray, List.set_cons_succ, List.set_cons_zero]
            have hL := HSM.out wq hS
            have hX9 : ChB wq gx 27 ((k + 1 : Nat) : Int) mn := hBx
            have HGX := Lib.hid (show GA < gx ∧ GB < gx from by have h1 := A_104.out.lt; have h2 := B_104.out.lt; have h3 := HMR.out; omega)
            have A_200 := Lib.hid (A_104.out.under hL)
            have B_200 := Lib.hid (B_104.out.under hL)
            have S_200 := Lib.hid (S_104.out.below hL)
            have X_200 := Lib.hid hX9
            have hM200 := below_more HMw.out hL HSw.out
            have hs200 : N ≤ wq.heap.size := Nat.le_trans HSw.out hL.size
            clear hX9 hL hS hBx hGx hzx hRx hgx HSM HAk HWk HMR
            go_wp2_with (first | ((with_reducible show wpList _ _ _ _ _ wq); refine load_ch (w := wq) (by rfl) _ rfl GB 27 (k : Int) mk (by rfl) B_200.out HMK.out ?_) | (go_at_call 7; (with_reducible show Calls _ _ _ wq _); refine (HAp.out _ wq hM200 S_200.out).mono ?_; rintro e w201c ⟨rfl, hLc⟩) | ((with_reducible show wpList _ _ _ _ _ w201c); refine alloc_row (w := w201c) rfl 27 rfl (.agg (ch 0 (List.replicate 16 0))) 17 (fun _ => by kernel_rfl) (by kernel_rfl) ?_; intro w201a hRa _ hGa hza) | ((with_reducible show wpList _ _ _ _ _ w201a); refine store_ch (w := w201a) rfl 27 _ _ rfl w201c.heap.size 27 ((k + 1 : Nat) : Int) mn (by rfl) (by rfl) hRa HMN.out (by kernel_rfl) ?_; intro w201 hBb hGb hzb; have hL9 : Below w201c.heap.size w201c w201 := below_new (below_none (Below.refl _ _) (Nat.le_refl _) hGa) hGa.size hGb (Nat.le_refl _); have hL : Below wq.heap.size wq w201 := below_more hLc hL9 hLc.size; obtain ⟨GY, eGx⟩ : ∃ g, w201c.heap.size = g := ⟨_, rfl⟩; have hgB : ChB w201 GY 27 ((k + 1 : Nat) : Int) mn := (by rw [← eGx]; exact hBb); have HLGY := Lib.hid (show N ≤ GY from (by rw [← eGx]; exact Nat.le_trans hs200 hLc.size)); rw [eGx]; have HYG := Lib.hid (show GA < GY ∧ GB < GY from (by have h1 := A_200.out.lt; have h3 := B_200.out.lt; have h2 := hLc.size; omega)); clear hRa hGa hza hBb hGb hzb hLc eGx hL9; have hM201 : Below N w w201 := below_more hM200 hL hs200; have hs201 : N ≤ w201.heap.size := Nat.le_trans hs200 (hL).size; have A_201 := Lib.hid (A_200.out.under hL); clear A_200; have B_201 := Lib.hid (B_200.out.under hL); clear B_200; have X_201 := Lib.hid (X_200.out.under hL); clear X_200; have S_201 := Lib.hid (S_200.out.below hL); clear S_200; clear hM200 hs200; have Y_201 := Lib.hid (hgB); clear hL hgB) | ((with_reducible show wpList _ _ _ _ _ w201); refine load_ch (w := w201) (by rfl) _ rfl gx 27 ((k + 1 : Nat) : Int) mn (by rfl) X_201.out HMN.out ?_) | ((with_reducible show wpList _ _ _ _ _ w201); refine load_ch (w := w201) (by rfl) _ rfl GY 27 ((k + 1 : Nat) : Int) mn (by rfl) Y_201.out HMN.out ?_) | ((with_reducible show wpList _ _ _ _ _ w201); refine op_neqg (w := w201) (by rfl) cht _ _ _ rfl (ch ((k + 1 : Nat) : Int) mn) (ch ((k + 1 : Nat) : Int) mn) (by rfl) (by rfl) (by kernel_rfl) false (fun w => (run_neq_ch w _ _ _ _ HMN.out HMN.out).trans (by simp)) ?_) | ((with_reducible show wpList _ _ _ _ _ w201); refine load_ch (w := w201) (by rfl) _ rfl gx 27 ((k + 1 : Nat) : Int) mn (by rfl) X_201.out HMN.out ?_) | ((with_reducible show wpList _ _ _ _ _ w201); refine store_ch (w := w201) rfl 27 _ _ rfl GA 27 ((k + 1 : Nat) : Int) mn (by rfl) (by rfl) (A_201.out.row HMK.out) HMN.out (by kernel_rfl) ?_; intro wa hA1 hGa hza; have hY1 := Y_201.out.old hGa (by have := HYG.out; simp; omega); have hB1 := B_201.out.old hGa (by have := HAB.out; simp; omega); have hMa : Below N w wa := below_new hM201 hs201 hGa HNA.out; have hsa : N ≤ wa.heap.size := (by rw [hza]; exact hs201)) | ((with_reducible show wpList _ _ _ _ _ wa); refine load_ch (w := wa) (by rfl) _ rfl GY 27 ((k + 1 : Nat) : Int) mn (by rfl) hY1 HMN.out ?_) | ((with_reducible show wpList _ _ _ _ _ wa); refine store_ch (w := wa) rfl 27 _ _ rfl GB 27 ((k + 1 : Nat) : Int) mn (by rfl) (by rfl) (hB1.row HMK.out) HMN.out (by kernel_rfl) ?_; intro wb hB2 hGb hzb))
            have hA2 := hA1.old hGb (by have := HAB.out; simp; omega)
            have hMb : Below N w wb := below_new hMa hsa hGb HNB.out
            have hsb : N ≤ wb.heap.size := by rw [hzb]; exact hsa
            have hE : mn = pmarks key (ss.take (k + 1)) 0 (List.replicate 16 0) := by rw [pmarks_take key _ ss k (by rw [ELS.out]; exact HLT.out), EMK.out]; unfold pmark; rw [ESS.out]; exact EMN.out.symm
            rw [hE] at hA2 hB2
            refine ⟨⟨k + 1, HLT.out, by go_num, ?_, hA2, hB2, hMb, hsb⟩, by have : k < LS := HLT.out; simp [intOf]; omega⟩
            intro j hj
            by_cases ej : j = k
            · rw [ej, ESS.out]; exact HOKk.out
            · exact HOKb.out j (by omega)
        · have hkb : ((k : Int) == kc) = false := beq_eq_false_iff_ne.2 hkc
          clear hkc
          have A_100 := Lib.hid hA9
          have B_100 := Lib.hid hB9
          have hM100 := hM9
          have hs100 := hs9
          clear hA9 hB9 hM9 hs9
          go_wp2_with (first | (go_at_call 9; (with_reducible show Calls _ _ _ wr _); refine (Note_yes s wr HS1.out HS2.out).mono ?_; rintro e w101 ⟨vn, rfl, hO, hL⟩; have hS := hO.slB; have hM101 : Below N w w101 := below_more hM100 hL hs100; have hs101 : N ≤ w101.heap.size := Nat.le_trans hs100 (hL).size; have A_101 := Lib.hid (A_100.out.under hL); clear A_100; have B_101 := Lib.hid (B_100.out.under hL); clear B_100; clear hM100 hs100; have S_101 := Lib.hid (hS); clear hO hL hS))
          try clear c1
          obtain ⟨MR, eMR⟩ : ∃ M, w101.heap.size = M := ⟨_, rfl⟩
          have HSM := Lib.hid (show ∀ wq, Below MR w101 wq → Below w101.heap.size w101 wq from fun wq h => by rw [eMR]; exact h)
          have hS : Below MR w101 w101.drew := ⟨rfl, rfl, rfl, Nat.le_refl _, fun _ _ => rfl⟩
          have HAk := Lib.hid (show ∀ wq, Below MR w101 wq → ChB wq GA 27 (k : Int) mk from fun wq h => A_101.out.under (HSM.out wq h))
          have HMw := Lib.hid hM101
          have HSw := Lib.hid hs101
          have HWk := Lib.hid (show ∀ wq, Below MR w101 wq → Below N w wq from fun wq h => below_more HMw.out (HSM.out wq h) HSw.out)
          have HMR := Lib.hid eMR
          refine wp_region_held (S := fun wq => Below MR w101 wq) (by kernel_rfl) ?_
          show wpAnyH _ _ _ _ _ 13 _ _ w101.drew
          refine anyH_tk (i := 0) (some 88) rfl (by kernel_rfl) (by kernel_rfl) (by kernel_rfl) (by kernel_rfl) (fun _ _ _ h => h) (yields_val (by kernel_rfl) ((.slice Ak 16 ck)) (fun w => by kernel_rfl)) hS ?_
          refine anyH_tk (i := 1) (some 89) rfl (by kernel_rfl) (by kernel_rfl) (by kernel_rfl) (by kernel_rfl) (fun _ _ _ h => h) (yields_chain (by kernel_rfl) _ rfl GA 27 (k : Int) mk (by kernel_rfl) (fun wq hq => HAk.out wq hq) HMK.out) hS ?_
          refine anyH_tk (i := 2) (some 90) rfl (by kernel_rfl) (by kernel_rfl) (by kernel_rfl) (by kernel_rfl) (fun _ _ _ h => h) (yields_val (by kernel_rfl) (.slice (some ⟨g, o, none⟩) LS cs) (fun w => by kernel_rfl)) hS ?_
          refine anyH_tk (i := 3) (some 91) rfl (by kernel_rfl) (by kernel_rfl) (by kernel_rfl) (by kernel_rfl) (fun _ _ _ h => h) (yields_val (by kernel_rfl) (.int .i64 (k : Int)) (fun w => by kernel_rfl)) hS ?_
          refine anyH_tk (i := 4) (some 92) rfl (by kernel_rfl) (by kernel_rfl) (by kernel_rfl) (by kernel_rfl) (fun _ _ _ h => h) (yields_ixs (by kernel_rfl) 23 _ _ rfl g o LS cs k (by kernel_rfl) (by kernel_rfl) HLT.out (by kernel_rfl) (fun w => run_str1 w)) hS ?_
          refine anyH_tk (i := 5) (some 93) rfl (by kernel_rfl) (by kernel_rfl) (by kernel_rfl) (by kernel_rfl) (fun _ _ _ h => h) (yields_cell (by kernel_rfl) (.string s) 9 _ rfl ⟨g, o + k, none⟩ (by kernel_rfl) (fun w h => load_str1 w _ _ h) (fun wq hq => HCell.out wq (HWk.out wq hq))) hS ?_
          refine wpAnyH_all (rs := [6, 10]) (by kernel_rfl) (by decide) ?_
          intro i hi
          simp only [List.mem_cons, List.not_mem_nil, or_false] at hi
          rcases hi with rfl | rfl
          · refine OpHd.h ?_
            refine opH_enter (some 94) rfl (by kernel_rfl) (by kernel_rfl) 10 #[(.slice Ak 16 ck), .agg (ch (k : Int) mk), .string s] (fun v wq => v = .tuple #[.agg (ch ((k + 1 : Nat) : Int) mn), .nilIface] ∧ Below w101.drew.heap.size w101.drew wq) (by kernel_rfl) ((HX.out w101.drew (HWk.out w101.drew hS)).mono fun e wq ⟨q1, q2⟩ => ⟨_, q1, rfl, q2⟩) ?_
            rintro v9 v1 ⟨rfl, hL⟩
            have hS : Below MR w101 v1 := below_more hS hL (by have := hS.size; have := HMR.out; omega)
            refine ⟨hS, ?_⟩
            refine anyH_tk (i := 7) (some 87) rfl (by kernel_rfl) (by kernel_rfl) (by kernel_rfl) (by kernel_rfl) (fun _ _ _ h => h) (yields_val (by kernel_rfl) (.tuple #[.agg (ch ((k + 1 : Nat) : Int) mn), .nilIface]) (fun w => by kernel_rfl)) hS ?_
            refine anyH_tk (i := 8) (some 95) rfl (by kernel_rfl) (by kernel_rfl) (by kernel_rfl) (by kernel_rfl) (fun _ _ _ h => h) (yields_val (by kernel_rfl) (.agg (ch ((k + 1 : Nat) : Int) mn)) (fun w => by kernel_rfl)) hS ?_
            refine anyH_tk (i := 9) (some 96) rfl (by kernel_rfl) (by kernel_rfl) (by kernel_rfl) (by kernel_rfl) (fun _ _ _ h => h) (yields_val (by kernel_rfl) (.nilIface) (fun w => by kernel_rfl)) hS ?_
            refine wpAnyH_all (rs := [10]) (by kernel_rfl) (by decide) ?_
            intro i hi
            obtain rfl : i = 10 := by simpa using hi
            refine wpOp_alloc rfl (by kernel_rfl) 27 rfl (.agg (ch 0 (List.replicate 16 0))) 17 (fun _ => by kernel_rfl) (by kernel_rfl) ?_
            intro v2 hRx hGa hza
            obtain ⟨gx, egx⟩ : ∃ g, v1.heap.size = g := ⟨_, rfl⟩
            rw [egx] at hRx ⊢
            have hgx : MR ≤ gx := by have := hS.size; have := HMR.out; omega
            have hS : Below MR w101 v2 := below_none hS (by have := hS.size; have := HMR.out; omega) hGa
            refine ⟨hS, ?_⟩
            refine wpAnyH_all (rs := [11]) (by kernel_rfl) (by decide) ?_
            intro i hi
            obtain rfl : i = 11 := by simpa using hi
            refine wpOp_store_ch rfl (by kernel_rfl) 27 _ _ rfl gx 27 ((k + 1 : Nat) : Int) mn (by kernel_rfl) (by kernel_rfl) hRx HMN.out (by kernel_rfl) ?_
            intro wq hBx hGx hzx
            have hS : Below MR w101 wq := below_new hS (by have := hS.size; have := HMR.out; omega) hGx hgx
            refine ⟨hS, ?_⟩
            refine anyH_tk (i := 12) (some 16) rfl (by kernel_rfl) (by kernel_rfl) (by kernel_rfl) (by kernel_rfl) (fun _ _ _ h => h) (yields_val (by kernel_rfl) (.nilIface) (fun w => by kernel_rfl)) hS ?_
            refine wpAnyH_done (by kernel_rfl) ?_ _
            simp only [Act.put, List.getElem_toArray, List.getElem_cons_succ, List.getElem_cons_zero, List.setIfInBounds_toArray, List.set_cons_succ, List.set_cons_zero]
            have hL := HSM.out wq hS
            have hX9 : ChB wq gx 27 ((k + 1 : Nat) : Int) mn := hBx
            have HGX := Lib.hid (show GA < gx ∧ GB < gx from by have h1 := A_101.out.lt; have h2 := B_101.out.lt; have h3 := HMR.out; omega)
            have A_200 := Lib.hid (A_101.out.under hL)
            have B_200 := Lib.hid (B_101.out.under hL)
            have S_200 := Lib.hid (S_101.out.below hL)
            have X_200 := Lib.hid hX9
            have hM200 := below_more HMw.out hL HSw.out
            have hs200 : N ≤ wq.heap.size := Nat.le_trans HSw.out hL.size
            clear hX9 hL hS hBx hGx hzx hRx hgx HSM HAk HWk HMR
            go_wp2_with (first | ((with_reducible show wpList _ _ _ _ _ wq); refine load_ch (w := wq) (by rfl) _ rfl GB 27 (k : Int) mk (by rfl) B_200.out HMK.out ?_) | (go_at_call 7; (with_reducible show Calls _ _ _ wq _); refine (HAp.out _ wq hM200 S_200.out).mono ?_; rintro e w201c ⟨rfl, hLc⟩) | ((with_reducible show wpList _ _ _ _ _ w201c); refine alloc_row (w := w201c) rfl 27 rfl (.agg (ch 0 (List.replicate 16 0))) 17 (fun _ => by kernel_rfl) (by kernel_rfl) ?_; intro w201a hRa _ hGa hza) | ((with_reducible show wpList _ _ _ _ _ w201a); refine store_ch (w := w201a) rfl 27 _ _ rfl w201c.heap.size 27 ((k + 1 : Nat) : Int) mn (by rfl) (by rfl) hRa HMN.out (by kernel_rfl) ?_; intro w201 hBb hGb hzb; have hL9 : Below w201c.heap.size w201c w201 := below_new (below_none (Below.refl _ _) (Nat.le_refl _) hGa) hGa.size hGb (Nat.le_refl _); have hL : Below wq.heap.size wq w201 := below_more hLc hL9 hLc.size; obtain ⟨GY, eGx⟩ : ∃ g, w201c.heap.size = g := ⟨_, rfl⟩; have hgB : ChB w201 GY 27 ((k + 1 : Nat) : Int) mn := (by rw [← eGx]; exact hBb); have HLGY := Lib.hid (show N ≤ GY from (by rw [← eGx]; exact Nat.le_trans hs200 hLc.size)); rw [eGx]; have HYG := Lib.hid (show GA < GY ∧ GB < GY from (by have h1 := A_200.out.lt; have h3 := B_200.out.lt; have h2 := hLc.size; omega)); clear hRa hGa hza hBb hGb hzb hLc eGx hL9; have hM201 : Below N w w201 := below_more hM200 hL hs200; have hs201 : N ≤ w201.heap.size := Nat.le_trans hs200 (hL).size; have A_201 := Lib.hid (A_200.out.under hL); clear A_200; have B_201 := Lib.hid (B_200.out.under hL); clear B_200; have X_201 := Lib.hid (X_200.out.under hL); clear X_200; have S_201 := Lib.hid (S_200.out.below hL); clear S_200; clear hM200 hs200; have Y_201 := Lib.hid (hgB); clear hL hgB) | ((with_reducible show wpList _ _ _ _ _ w201); refine load_ch (w := w201) (by rfl) _ rfl gx 27 ((k + 1 : Nat) : Int) mn (by rfl) X_201.out HMN.out ?_) | ((with_reducible show wpList _ _ _ _ _ w201); refine load_ch (w := w201) (by rfl) _ rfl GY 27 ((k + 1 : Nat) : Int) mn (by rfl) Y_201.out HMN.out ?_) | ((with_reducible show wpList _ _ _ _ _ w201); refine op_neqg (w := w201) (by rfl) cht _ _ _ rfl (ch ((k + 1 : Nat) : Int) mn) (ch ((k + 1 : Nat) : Int) mn) (by rfl) (by rfl) (by kernel_rfl) false (fun w => (run_neq_ch w _ _ _ _ HMN.out HMN.out).trans (by simp)) ?_) | ((with_reducible show wpList _ _ _ _ _ w201); refine load_ch (w := w201) (by rfl) _ rfl gx 27 ((k + 1 : Nat) : Int) mn (by rfl) X_201.out HMN.out ?_) | ((with_reducible show wpList _ _ _ _ _ w201); refine store_ch (w := w201) rfl 27 _ _ rfl GA 27 ((k + 1 : Nat) : Int) mn (by rfl) (by rfl) (A_201.out.row HMK.out) HMN.out (by kernel_rfl) ?_; intro wa hA1 hGa hza; have hY1 := Y_201.out.old hGa (by have := HYG.out; simp; omega); have hB1 := B_201.out.old hGa (by have := HAB.out; simp; omega); have hMa : Below N w wa := below_new hM201 hs201 hGa HNA.out; have hsa : N ≤ wa.heap.size := (by rw [hza]; exact hs201)) | ((with_reducible show wpList _ _ _ _ _ wa); refine load_ch (w := wa) (by rfl) _ rfl GY 27 ((k + 1 : Nat) : Int) mn (by rfl) hY1 HMN.out ?_) | ((with_reducible show wpList _ _ _ _ _ wa); refine store_ch (w := wa) rfl 27 _ _ rfl GB 27 ((k + 1 : Nat) : Int) mn (by rfl) (by rfl) (hB1.row HMK.out) HMN.out (by kernel_rfl) ?_; intro wb hB2 hGb hzb))
            have hA2 := hA1.old hGb (by have := HAB.out; simp; omega)
            have hMb : Below N w wb := below_new hMa hsa hGb HNB.out
            have hsb : N ≤ wb.heap.size := by rw [hzb]; exact hsa
            have hE : mn = pmarks key (ss.take (k + 1)) 0 (List.replicate 16 0) := by rw [pmarks_take key _ ss k (by rw [ELS.out]; exact HLT.out), EMK.out]; unfold pmark; rw [ESS.out]; exact EMN.out.symm
            rw [hE] at hA2 hB2
            refine ⟨⟨k + 1, HLT.out, by go_num, ?_, hA2, hB2, hMb, hsb⟩, by have : k < LS := HLT.out; simp [intOf]; omega⟩
            intro j hj
            by_cases ej : j = k
            · rw [ej, ESS.out]; exact HOKk.out
            · exact HOKb.out j (by omega)
          · refine wpOp_alloc rfl (by kernel_rfl) 27 rfl (.agg (ch 0 (List.replicate 16 0))) 17 (fun _ => by kernel_rfl) (by kernel_rfl) ?_
            intro v1 hRx hGa hza
            obtain ⟨gx, egx⟩ : ∃ g, w101.drew.heap.size = g := ⟨_, rfl⟩
            rw [egx] at hRx ⊢
            have hgx : MR ≤ gx := by have := hS.size; have := HMR.out; omega
            have hS : Below MR w101 v1 := below_none hS (by have := hS.size; have := HMR.out; omega) hGa
            refine ⟨hS, ?_⟩
            refine anyH_one 6 (by kernel_rfl) ?_
            refine opH_enter (some 94) rfl (by kernel_rfl) (by kernel_rfl) 10 #[(.slice Ak 16 ck), .agg (ch (k : Int) mk), .string s] (fun v wq => v = .tuple #[.agg (ch ((k + 1 : Nat) : Int) mn), .nilIface] ∧ Below v1.heap.size v1 wq) (by kernel_rfl) ((HX.out v1 (HWk.out v1 hS)).mono fun e wq ⟨q1, q2⟩ => ⟨_, q1, rfl, q2⟩) ?_
            rintro v9 v2 ⟨rfl, hL⟩
            have hRx := hRx.below hL hRx.lt
            have hS : Below MR w101 v2 := below_more hS hL (by have := hS.size; have := HMR.out; omega)
            refine ⟨hS, ?_⟩
            refine anyH_tk (i := 7) (some 87) rfl (by kernel_rfl) (by kernel_rfl) (by kernel_rfl) (by kernel_rfl) (fun _ _ _ h => h) (yields_val (by kernel_rfl) (.tuple #[.agg (ch ((k + 1 : Nat) : Int) mn), .nilIface]) (fun w => by kernel_rfl)) hS ?_
            refine anyH_tk (i := 8) (some 95) rfl (by kernel_rfl) (by kernel_rfl) (by kernel_rfl) (by kernel_rfl) (fun _ _ _ h => h) (yields_val (by kernel_rfl) (.agg (ch ((k + 1 : Nat) : Int) mn)) (fun w => by kernel_rfl)) hS ?_
            refine anyH_tk (i := 9) (some 96) rfl (by kernel_rfl) (by kernel_rfl) (by kernel_rfl) (by kernel_rfl) (fun _ _ _ h => h) (yields_val (by kernel_rfl) (.nilIface) (fun w => by kernel_rfl)) hS ?_
            refine wpAnyH_all (rs := [11]) (by kernel_rfl) (by decide) ?_
            intro i hi
            obtain rfl : i = 11 := by simpa using hi
            refine wpOp_store_ch rfl (by kernel_rfl) 27 _ _ rfl gx 27 ((k + 1 : Nat) : Int) mn (by kernel_rfl) (by kernel_rfl) hRx HMN.out (by kernel_rfl) ?_
            intro wq hBx hGx hzx
            have hS : Below MR w101 wq := below_new hS (by have := hS.size; have := HMR.out; omega) hGx hgx
            refine ⟨hS, ?_⟩
            refine anyH_tk (i := 12) (some 16) rfl (by kernel_rfl) (by kernel_rfl) (by kernel_rfl) (by kernel_rfl) (fun _ _ _ h => h) (yields_val (by kernel_rfl) (.nilIface) (fun w => by kernel_rfl)) hS ?_
            refine wpAnyH_done (by kernel_rfl) ?_ _
            simp only [Act.put, List.getElem_toArray, List.getElem_cons_succ, List.getElem_cons_zero, List.setIfInBounds_toArray, List.set_cons_succ, List.set_cons_zero]
            have hL := HSM.out wq hS
            have hX9 : ChB wq gx 27 ((k + 1 : Nat) : Int) mn := hBx
            have HGX := Lib.hid (show GA < gx ∧ GB < gx from by have h1 := A_101.out.lt; have h2 := B_101.out.lt; have h3 := HMR.out; omega)
            have A_200 := Lib.hid (A_101.out.under hL)
            have B_200 := Lib.hid (B_101.out.under hL)
            have S_200 := Lib.hid (S_101.out.below hL)
            have X_200 := Lib.hid hX9
            have hM200 := below_more HMw.out hL HSw.out
            have hs200 : N ≤ wq.heap.size := Nat.le_trans HSw.out hL.size
            clear hX9 hL hS hBx hGx hzx hRx hgx HSM HAk HWk HMR
            go_wp2_with (first | ((with_reducible show wpList _ _ _ _ _ wq); refine load_ch (w := wq) (by rfl) _ rfl GB 27 (k : Int) mk (by rfl) B_200.out HMK.out ?_) | (go_at_call 7; (with_reducible show Calls _ _ _ wq _); refine (HAp.out _ wq hM200 S_200.out).mono ?_; rintro e w201c ⟨rfl, hLc⟩) | ((with_reducible show wpList _ _ _ _ _ w201c); refine alloc_row (w := w201c) rfl 27 rfl (.agg (ch 0 (List.replicate 16 0))) 17 (fun _ => by kernel_rfl) (by kernel_rfl) ?_; intro w201a hRa _ hGa hza) | ((with_reducible show wpList _ _ _ _ _ w201a); refine store_ch (w := w201a) rfl 27 _ _ rfl w201c.heap.size 27 ((k + 1 : Nat) : Int) mn (by rfl) (by rfl) hRa HMN.out (by kernel_rfl) ?_; intro w201 hBb hGb hzb; have hL9 : Below w201c.heap.size w201c w201 := below_new (below_none (Below.refl _ _) (Nat.le_refl _) hGa) hGa.size hGb (Nat.le_refl _); have hL : Below wq.heap.size wq w201 := below_more hLc hL9 hLc.size; obtain ⟨GY, eGx⟩ : ∃ g, w201c.heap.size = g := ⟨_, rfl⟩; have hgB : ChB w201 GY 27 ((k + 1 : Nat) : Int) mn := (by rw [← eGx]; exact hBb); have HLGY := Lib.hid (show N ≤ GY from (by rw [← eGx]; exact Nat.le_trans hs200 hLc.size)); rw [eGx]; have HYG := Lib.hid (show GA < GY ∧ GB < GY from (by have h1 := A_200.out.lt; have h3 := B_200.out.lt; have h2 := hLc.size; omega)); clear hRa hGa hza hBb hGb hzb hLc eGx hL9; have hM201 : Below N w w201 := below_more hM200 hL hs200; have hs201 : N ≤ w201.heap.size := Nat.le_trans hs200 (hL).size; have A_201 := Lib.hid (A_200.out.under hL); clear A_200; have B_201 := Lib.hid (B_200.out.under hL); clear B_200; have X_201 := Lib.hid (X_200.out.under hL); clear X_200; have S_201 := Lib.hid (S_200.out.below hL); clear S_200; clear hM200 hs200; have Y_201 := Lib.hid (hgB); clear hL hgB) | ((with_reducible show wpList _ _ _ _ _ w201); refine load_ch (w := w201) (by rfl) _ rfl gx 27 ((k + 1 : Nat) : Int) mn (by rfl) X_201.out HMN.out ?_) | ((with_reducible show wpList _ _ _ _ _ w201); refine load_ch (w := w201) (by rfl) _ rfl GY 27 ((k + 1 : Nat) : Int) mn (by rfl) Y_201.out HMN.out ?_) | ((with_reducible show wpList _ _ _ _ _ w201); refine op_neqg (w := w201) (by rfl) cht _ _ _ rfl (ch ((k + 1 : Nat) : Int) mn) (ch ((k + 1 : Nat) : Int) mn) (by rfl) (by rfl) (by kernel_rfl) false (fun w => (run_neq_ch w _ _ _ _ HMN.out HMN.out).trans (by simp)) ?_) | ((with_reducible show wpList _ _ _ _ _ w201); refine load_ch (w := w201) (by rfl) _ rfl gx 27 ((k + 1 : Nat) : Int) mn (by rfl) X_201.out HMN.out ?_) | ((with_reducible show wpList _ _ _ _ _ w201); refine store_ch (w := w201) rfl 27 _ _ rfl GA 27 ((k + 1 : Nat) : Int) mn (by rfl) (by rfl) (A_201.out.row HMK.out) HMN.out (by kernel_rfl) ?_; intro wa hA1 hGa hza; have hY1 := Y_201.out.old hGa (by have := HYG.out; simp; omega); have hB1 := B_201.out.old hGa (by have := HAB.out; simp; omega); have hMa : Below N w wa := below_new hM201 hs201 hGa HNA.out; have hsa : N ≤ wa.heap.size := (by rw [hza]; exact hs201)) | ((with_reducible show wpList _ _ _ _ _ wa); refine load_ch (w := wa) (by rfl) _ rfl GY 27 ((k + 1 : Nat) : Int) mn (by rfl) hY1 HMN.out ?_) | ((with_reducible show wpList _ _ _ _ _ wa); refine store_ch (w := wa) rfl 27 _ _ rfl GB 27 ((k + 1 : Nat) : Int) mn (by rfl) (by rfl) (hB1.row HMK.out) HMN.out (by kernel_rfl) ?_; intro wb hB2 hGb hzb))
            have hA2 := hA1.old hGb (by have := HAB.out; simp; omega)
            have hMb : Below N w wb := below_new hMa hsa hGb HNB.out
            have hsb : N ≤ wb.heap.size := by rw [hzb]; exact hsa
            have hE : mn = pmarks key (ss.take (k + 1)) 0 (List.replicate 16 0) := by rw [pmarks_take key _ ss k (by rw [ELS.out]; exact HLT.out), EMK.out]; unfold pmark; rw [ESS.out]; exact EMN.out.symm
            rw [hE] at hA2 hB2
            refine ⟨⟨k + 1, HLT.out, by go_num, ?_, hA2, hB2, hMb, hsb⟩, by have : k < LS := HLT.out; simp [intOf]; omega⟩
            intro j hj
            by_cases ej : j = k
            · rw [ej, ESS.out]; exact HOKk.out
            · exact HOKb.out j (by omega)
      · have n6 : decide ((60 : Int) < (s.size : Int)) = true := by simp; omega
        have HM9 := Lib.hid hM9
        clear hA9 hB9 hok hM9 h0 h6 ess
        go_wp2
        go_ret
        exact ⟨rfl, by first | exact HM9.out | (rw [HN.out]; exact HM9.out)⟩
    · have hkL : k = LS := by omega
      have hik : ¬ (k : Int) < (LS : Int) := by omega
      rw [hkL] at hA9 hok
      rw [show ss.take LS = ss from List.take_of_length_le (by rw [ELS.out]; omega), EM.out] at hA9
      have HOK := Lib.hid (show ∀ j, j < ss.length → key.length = 16 ∧ okNote (gs ss j) = true from fun j hj => ⟨HKL.out, hok j (by rw [← ELS.out]; exact hj)⟩)
      have HM9 := Lib.hid hM9
      have HA9 := Lib.hid hA9
      clear hlt hkL hok hB9 hM9 hA9
      go_wp2_with (first | ((with_reducible show wpList _ _ _ _ _ wr); refine load_ch (w := wr) (by rfl) _ rfl GA 27 (LS : Int) M (by rfl) HA9.out HMM.out ?_) | (go_at_call 11; (with_reducible show Calls _ _ _ wr _); refine (Check_end _ _ key ss (LS : Int) M true wr (HK.out wr HM9.out) (HSS.out wr HM9.out) (by have := HL20.out; have := ELS.out; omega) HMM.out HOK.out HBT.out).mono ?_; rintro e w5 ⟨rfl, hL⟩; have hM5 := below_more HM9.out hL (by omega); have cc := (HA9.out.under hL).count; clear hL))
      go_ret
      exact ⟨rfl, by first | exact hM5 | (rw [HN.out]; exact hM5)⟩
theorem AuditChain_any (vk : Value) (key : List UInt8) (vs : Value) (ss : List ByteArray) (cut : UInt8) (w : World) (hk : SlB w vk key) (hs : SlS w vs ss) : Calls Try.prog 3 #[vk, vs, .int .u8 (bv cut)] w fun e w' => e = .returned (.bool true) ∧ Below w.heap.size w w' := by
  by_cases b0 : key.length = 16
  case neg => exact AH_f0 vk vs key ss cut w hk hs b0
  by_cases b1 : ss.length ≤ 20
  case neg => exact AH_f1 vk vs key ss cut w hk hs b0 b1
  exact AH_main vk vs key ss cut w hk hs b0 b1
end Go.Proofs.Ytpfmhohldfnhmaa
set_option linter.unusedVariables false
set_option linter.unusedSimpArgs false
namespace Lk
open Go Go.RowKit
/-- a slice of whole numbers as it is read -/
def IsRow (k : IntKind) (w : World) (a : Option Addr) (len cap : Nat) (zs : List Int) : Prop :=
  (a = none ∧ len = 0 ∧ cap = 0 ∧ zs = []) ∨
  ∃ x, a = some x ∧ len ≤ cap ∧ cap ≤ maxLen ∧ zs.length = cap ∧ (∀ i, i < zs.length → w.cell? (x.add i) = some (.int k (zs.getD i 0))) ∧ ∀ n ∈ zs, (Lit.int k n).wf = true
theorem u8_of_wf {n : Int} (h : (Lit.int .u8 n).wf = true) : n = bv (UInt8.ofNat n.toNat) := by
  obtain ⟨a, rfl⟩ := open_u8 h
  unfold bv
  simp
theorem slB_of_row {w : World} {a : Option Addr} {len cap : Nat} {zs : List Int} (h : IsRow .u8 w a len cap zs) : ∃ l : List UInt8, l.length = len ∧ SlB w (.slice a len cap) l := by
  rcases h with ⟨rfl, rfl, rfl, rfl⟩ | ⟨x, rfl, h1, h2, h3, h4, h5⟩
  · exact ⟨[], rfl, none, 0, rfl, fun _ => rfl, Nat.le_refl _, Nat.zero_le _, fun h => by omega⟩
  · have hl : ((zs.take len).map fun z => UInt8.ofNat z.toNat).length = len := by simp; omega
    refine ⟨(zs.take len).map fun z => UInt8.ofNat z.toNat, hl, some x, cap, by rw [hl], fun h => (by cases h), by rw [hl]; exact h1, h2, fun hc => ?_⟩
    have hx : x.spot = none := by
      have := h4 0 (by omega)
      have e : x.add 0 = x := by simp [Addr.add]
      rw [e] at this
      unfold World.cell? at this
      split at this
      · split at this
        · cases this
        · rename_i hs; simpa using hs
      · cases this
    obtain ⟨g, o, s⟩ := x
    cases hx
    refine ⟨g, o, rfl, fun k hk => ?_⟩
    rw [hl] at hk
    have hc := h4 k (by omega)
    have ea : (⟨g, o, none⟩ : Addr).add k = ⟨g, o + k, none⟩ := by unfold Addr.add; split <;> simp_all
    rw [ea] at hc
    rw [hc]
    have hm : zs.getD k 0 ∈ zs := by
      have : k < zs.length := by omega
      simp [this]
    have := u8_of_wf (h5 _ hm)
    have e : g8 ((zs.take len).map fun z => UInt8.ofNat z.toNat) k = UInt8.ofNat (zs.getD k 0).toNat := by
      unfold g8
      have : k < zs.length := by omega
      simp [List.getElem?_take, hk, this]
    rw [e, ← this]
section
variable {P : Program} {H : Type} {enc : TypeId × Value → H}
theorem open_slice_u8 {t e : TypeId} {W : World} {a : Option Addr} {len cap : Nat} {d : DataW H} {ps : List MemPlace} (ht : P.underlying t = some (.slice e)) (he : P.underlying e = some (.int .u8)) (hc : P.cellsOf e = 1)
    (h : DataW.Trod enc P W 0 (fun _ => true) true t (.slice a len cap) d ps) : ∃ l : List UInt8, l.length = len ∧ SlB W (.slice a len cap) l := by
  obtain ⟨zs, hz⟩ : ∃ zs, IsRow .u8 W a len cap zs := by
    obtain ⟨fuel, hf⟩ := h
    rcases Go.ChangeShapes.open_ints ht he hc hf with ⟨hcs, _⟩ | ⟨x, l, c, zs, hcs, _, hl, hm, hz, _, hcell, hwz⟩
    · simp [Value.cells] at hcs
      obtain ⟨rfl, rfl, rfl⟩ := hcs
      exact ⟨[], .inl ⟨rfl, rfl, rfl, rfl⟩⟩
    · simp [Value.cells] at hcs
      obtain ⟨rfl, rfl, rfl⟩ := hcs
      exact ⟨zs, .inr ⟨_, rfl, hl, hm, by simpa using hz, hcell, hwz⟩⟩
  exact slB_of_row hz
/-- an array of bytes -/
theorem open_arr_u8 {t e n : Nat} {W : World} {r : Reach} {base : Nat} {v : Value} (ht : P.underlying t = some (.array n e)) (he : P.underlying e = some (.int .u8)) (hc : P.cellsOf t = n) (hct : P.cellTypes P.depth t = some (List.replicate n e)) (hn : 0 < n)
    (h : Value.okWide P W r base t v) : ∃ l : List UInt8, l.length = n ∧ v = .agg (Bs l) := by
  simp only [Value.okWide, ht] at h
  obtain ⟨cs, rfl, hsz, ts, hts, _, hcell⟩ := h
  rw [hct] at hts
  cases hts
  rw [hc] at hsz
  refine ⟨cs.toList.map fun v => match v with | .int _ z => UInt8.ofNat z.toNat | _ => 0, by simp [hsz], ?_⟩
  congr 1
  apply Array.ext
  · simp [Bs]
  · intro i h1 h2
    obtain ⟨u, hu, hok⟩ := hcell i cs[i] (by simp [h1])
    have hue : u = e := by
      rw [List.getElem?_replicate] at hu
      split at hu
      · cases hu; rfl
      · cases hu
    subst hue
    simp only [Cell.okWide, he] at hok
    simp only [Bs, List.map_map, List.getElem_toArray, List.getElem_map, Function.comp_apply, Array.getElem_toList]
    cases hv : cs[i] with
    | int k z =>
      rw [hv] at hok
      simp only [Cell.ok, he] at hok
      obtain ⟨rfl, hw⟩ := hok
      have hw' : (Lit.int .u8 z).wf = true := by
        unfold Lit.wf
        rw [Bool.and_eq_true]
        exact ⟨decide_eq_true hw.1, decide_eq_true hw.2⟩
      simp only [← u8_of_wf hw']
    | _ => rw [hv] at hok; simp [Cell.ok, he] at hok
end
end Lk
set_option linter.unusedVariables false
set_option linter.unusedSimpArgs false
namespace Lk
open Go Go.RowKit Go.ChangeShapes Go.WideShapes Go.Deep
theorem add_plain5 (g o k : Nat) : (⟨g, o, none⟩ : Addr).add k = ⟨g, o + k, none⟩ := by unfold Addr.add; split <;> simp_all
section
variable {P : Program} {H : Type} {enc : TypeId × Value → H}
theorem open_strs {t e : TypeId} {W : World} {a : Option Addr} {len cap : Nat} {d : DataW H} {ps : List MemPlace} (ht : P.underlying t = some (.slice e)) (he : P.underlying e = some .string) (hce : P.cellsOf e = 1)
    (h : DataW.Trod enc P W 0 (fun _ => true) true t (.slice a len cap) d ps) : ∃ l : List ByteArray, l.length = len ∧ SlS W (.slice a len cap) l := by
  obtain ⟨fuel, hf⟩ := h
  rcases open_slice ht hf with ⟨hcs, _⟩ | ⟨x, l, c, m, n, D, Pl, hcs, _, hl, hm, hmm, _, hi⟩
  · simp [Value.cells] at hcs
    obtain ⟨rfl, rfl, rfl⟩ := hcs
    exact ⟨[], rfl, slS_nil W⟩
  · simp [Value.cells] at hcs
    obtain ⟨rfl, rfl, rfl⟩ := hcs
    have hmc : m = cap := by rw [hmm]; rfl
    subst hmc
    have hcellx : ∀ i, i < m → ∃ s, W.cell? (x.add i) = some (.string s) := by
      intro i h
      obtain ⟨cs', h1, h2⟩ := hi i h
      obtain ⟨s, rfl, _, _⟩ := DataW.trod_string he h2
      rw [hce, Nat.mul_one] at h1
      obtain ⟨_, _, hat⟩ := World.cells?_some h1
      have := hat (i := 0) (by omega)
      rw [show (x.add i).add 0 = x.add i by simp [Addr.add]] at this
      exact ⟨s, this.trans rfl⟩
    have hone : ∀ i, ∃ s : ByteArray, i < m → W.cell? (x.add i) = some (.string s) := by
      intro i
      by_cases h : i < m
      · obtain ⟨s, h1⟩ := hcellx i h
        exact ⟨s, fun _ => h1⟩
      · exact ⟨ByteArray.empty, fun h' => absurd h' h⟩
    obtain ⟨f, hf⟩ := Classical.axiomOfChoice hone
    refine ⟨(List.range len).map f, by simp, some x, m, by simp, by simpa using hl, fun hcp => ?_⟩
    have hcp' : 0 < len := by simpa using hcp
    have hx : x.spot = none := by
      obtain ⟨s, this⟩ := hcellx 0 (by omega)
      have e : x.add 0 = x := by simp [Addr.add]
      rw [e] at this
      unfold World.cell? at this
      split at this
      · split at this
        · cases this
        · rename_i hs; simpa using hs
      · cases this
    obtain ⟨gx, ox, s⟩ := x
    cases hx
    refine ⟨gx, ox, rfl, fun k hk => ?_⟩
    have hkl : k < len := by simpa using hk
    have h1 := hf k (by omega)
    rw [add_plain5] at h1
    rw [h1]
    unfold gs
    simp [hkl]
end
end Lk
namespace Go.Proofs.Ytpfmhohldfnhmaa.auditChain
open Go.ChangeShapes Go.WideShapes Go.ChangeAt Go.RowKit Lk
open Go.ChangeMaps (open_string shut_string)
set_option linter.unusedVariables false
set_option linter.unusedSimpArgs false
theorem own : ownKnob Try.prog.godebug = none := by kernel_rfl
theorem laidOut : laidOutB Try.prog = true := by kernel_rfl
set_option maxRecDepth 100000 in
theorem lifted (os : Os) (started : os.Started) (H : Type) (enc : TypeId × Value → H) :
    ReturnsInHanded {} Try.checked os 3 .any (Rows.auditChainSpec.pre6 enc Try.prog Try.f3 Rows.auditChainRow.domain false) (Rows.auditChainSpec.post enc Try.prog Try.f3 false true false false) := by
  refine returnsInHanded_of_change_sized (C := Try.checked) own started (by kernel_rfl) Try.func3
    (ChangeSpec.witness6 (enc := enc) (C := Try.checked) false ⟨#[], #[.slice none 0 0, .slice none 0 0, .int .u8 0], []⟩ 8 (by kernel_rfl) (by kernel_rfl) (by kernel_rfl) (by kernel_rfl)) ?_
  intro W base args ds gs before hval0 hW hcnd hsz0 _
  have hsz : (DataW.weightsEach Try.prog (Try.f3.params.toList ++ Rows.auditChainSpec.plain.varTypes Try.prog) (ds ++ gs)).all (· ≤ reachBytes) = true := hsz0
  have hval : ∀ (j : Nat) t v, Try.f3.params[j]? = some t → args[j]? = some v → Value.okWide Try.prog W .any base t v := hval0
  have hW' := hW
  obtain ⟨p, q, hA0, hV, rfl, hfz, hnd⟩ := hW
  have hA : DataW.TrodAll enc Try.prog W 0 (fun _ => true) true Try.f3.params.toList args.toList ds p := hA0
  rw [Try.params3] at hA hval hsz
  obtain ⟨v0, vs0, d0, ds0, p0, q0, hargs, rfl, rfl, h0, r0⟩ := trodAll_cons hA
  obtain ⟨v1, vs1, d1, ds1, p1, q1, rfl, rfl, rfl, h1, r1⟩ := trodAll_cons r0
  obtain ⟨v2, vs2, d2, ds2, p2, q2, rfl, rfl, rfl, h2, r2⟩ := trodAll_cons r1
  obtain ⟨rfl, rfl, rfl⟩ := trodAll_nil r2
  obtain rfl : args = #[v0, v1, v2] := by cases args; simp_all
  obtain ⟨rfl, rfl⟩ := trodVars_none hV
  have k0 := h0
  have lt0 : ∀ x ∈ p0, x.block < W.heap.size := by obtain ⟨m, hm⟩ := k0; exact DataW.trod_lt m _ _ _ hm
  obtain ⟨a0, len0, cap0, rfl⟩ := okWide_slice Try.underlying22 (hval 0 22 v0 rfl rfl)
  obtain ⟨l0, hl0, s0⟩ := open_slice_u8 Try.underlying22 Try.underlying5 (by kernel_rfl) h0
  have k1 := h1
  have lt1 : ∀ x ∈ p1, x.block < W.heap.size := by obtain ⟨m, hm⟩ := k1; exact DataW.trod_lt m _ _ _ hm
  obtain ⟨a1, len1, cap1, rfl⟩ := okWide_slice Try.underlying23 (hval 1 23 v1 rfl rfl)
  obtain ⟨l1, hl1, s1⟩ := open_strs Try.underlying23 Try.underlying9 (by kernel_rfl) h1
  have k2 := h2
  have lt2 : ∀ x ∈ p2, x.block < W.heap.size := by obtain ⟨m, hm⟩ := k2; exact DataW.trod_lt m _ _ _ hm
  obtain ⟨a2, rfl, rfl, rfl, w2⟩ := open_int Try.underlying5 (hval 2 5 v2 rfl rfl) h2
  obtain ⟨b2, rfl⟩ := Lk.open_u8 w2
  clear hA0 hval0 hsz0 hsz
  refine (AuditChain_any _ l0 _ l1 b2 W s0 s1).mono fun e W' ⟨he, bel⟩ => ?_
  subst he
  exact ⟨_, rfl, _, _, _, [], _, [], hW', trodAll_mk1 (shut_bool Try.underlying4 _), (trodAll_cons_mk (Below.trod laidOut (by kernel_rfl) (of_decide_eq_true (by kernel_rfl)) k0 bel lt0) (trodAll_cons_mk (Below.trod laidOut (by kernel_rfl) (of_decide_eq_true (by kernel_rfl)) k1 bel lt1) (trodAll_cons_mk (Below.trod laidOut (by kernel_rfl) (of_decide_eq_true (by kernel_rfl)) k2 bel lt2) trodAll_mk0))), rfl, bel.frame _, fun h => by cases h⟩
theorem over : Rows.auditChainRow.holds Try.pinned (OpenSpec.ofChange Rows.auditChainSpec) :=
  OpenClaim.holds_of_wide 3 Try.f3 rfl rfl rfl rfl rfl rfl rfl ⟨rfl, rfl, rfl, rfl, rfl⟩ rfl rfl rfl rfl rfl (by kernel_rfl) Try.func3 (by kernel_rfl)
    (of_decide_eq_true (by kernel_rfl)) (by unfold Func.isWrapper; first | (rw [if_pos (by decide +kernel)]; kernel_rfl) | (rw [if_neg (by decide +kernel)]; exact ⟨rfl, rfl⟩))
    (fun os started H enc _ => lifted os started H enc)
theorem proved : Rows.AuditChainSaid := over
#print axioms proved
end Go.Proofs.Ytpfmhohldfnhmaa.auditChain
namespace Go.Proofs.Ytpfmhohldfnhmaa
/-- The row, under a short name, for the claim. -/
theorem auditChain_holds : Rows.AuditChainSaid := auditChain.proved
end Go.Proofs.Ytpfmhohldfnhmaa
