/- Codes of texts: Cmac. -/
import Derived.Test.YtjbdhnmkeaogcaaMacW
import Derived.Test.YtjbdhnmkeaogcaaMacI
set_option linter.unusedVariables false
set_option linter.unusedSimpArgs false
namespace Lk
open Go Go.RowKit
theorem SlB.take {w : World} {A : Option Addr} {L c n : Nat} {l : List UInt8} (h : SlB w (.slice A L c) l) (hn : n ≤ l.length) : SlB w (.slice A n c) (l.take n) := by
  obtain ⟨A', c', e, h1, h2, h3, h4⟩ := h
  cases e
  refine ⟨A, c, by rw [List.length_take, Nat.min_eq_left hn], h1, by rw [List.length_take]; omega, h3, fun hc => ?_⟩
  obtain ⟨g, o, rfl, hr⟩ := h4 hc
  refine ⟨g, o, rfl, fun k hk => ?_⟩
  rw [List.length_take] at hk
  rw [hr k (by omega), g8_take _ _ _ (by omega)]
theorem SlB.drop {w : World} {g o L c k : Nat} {l : List UInt8} (h : SlB w (.slice (some ⟨g, o, none⟩) L c) l) (hk : k ≤ l.length) : SlB w (.slice (some ⟨g, o + k, none⟩) (L - k) (c - k)) (l.drop k) := by
  obtain ⟨A', c', e, h1, h2, h3, h4⟩ := h
  cases e
  refine ⟨_, _, by rw [List.length_drop], fun h => (by cases h), by rw [List.length_drop]; omega, by omega, fun hc => ?_⟩
  obtain ⟨g', o', e', hr⟩ := h4 (by omega)
  cases e'
  refine ⟨g, o + k, rfl, fun j hj => ?_⟩
  rw [List.length_drop] at hj
  rw [Nat.add_assoc, hr (k + j) (by omega), g8_drop]
theorem SlB.form {w : World} {v : Value} {l : List UInt8} {L : Nat} (h : SlB w v l) (hL : l.length = L) : ∃ A c, v = .slice A L c := by
  obtain ⟨A, c, e, _⟩ := h
  exact ⟨A, c, by rw [e, hL]⟩
theorem Own.cell {w : World} {base g L c : Nat} {l : List UInt8} (h : Own w base (.slice (some ⟨g, 0, none⟩) L c) l) (k : Nat) (hk : k < l.length) : w.cell? ⟨g, k, none⟩ = some (.int .u8 (bv (g8 l k))) := by
  have e : L = l.length := h.len
  subst e
  have := World.ownsRow.cellAt (h := h) k (by omega)
  rw [this]; exact Bl_get' l k hk
theorem Own.free {w : World} {base g L c : Nat} {l : List UInt8} (h : Own w base (.slice (some ⟨g, 0, none⟩) L c) l) (k : Nat) : w.frozen? ⟨g, k, none⟩ = false := by
  have e : L = l.length := h.len
  subst e
  exact World.ownsRow.frozenAt (h := h) k
theorem pchain_len (kind : Nat) (key t : List UInt8) (m : Nat) (hk : kind = 1 ∨ kind = 2) : (pchain kind key t m).length = psize kind := chTo_last kind key _ t m hk (List.length_replicate ..)
theorem pcmac_len (kind : Nat) (key t : List UInt8) (hk : kind = 1 ∨ kind = 2) : (pcmac kind key t).length = psize kind := pchain_len kind key _ _ hk
theorem Own.slB' {w : World} {base : Nat} {v : Value} {l : List UInt8} (h : Own w base v l) : SlB w v l := h.slB
end Lk
namespace Go.Proofs.Ytjbdhnmkeaogcaa
open Go.RowKit Lk
theorem doubled_sz (v : Value) (b : List UInt8) (sz : Nat) (w : World) (h : SlB w v b) (hb : b.length = sz) (hz : sz = 8 ∨ sz = 16) :
    Calls Try.prog 35 #[v] w fun e w' => ∃ g, e = .returned (.slice (some ⟨g, 0, none⟩) sz sz) ∧ SlB w' (.slice (some ⟨g, 0, none⟩) sz sz) (pdbl b) ∧ w.heap.size ≤ g ∧ g < w'.heap.size ∧ Below w.heap.size w w' :=
  (doubled_any v b w h (by rw [hb]; exact hz)).mono fun e w' ⟨v', he, ⟨g, T, e1, hg, hB⟩, hL⟩ => by
    have hl : (pdbl b).length = sz := by rw [pdbl_len, hb]
    have hs : SlB w' (.slice (some ⟨g, 0, none⟩) sz sz) (pdbl b) := New.slB (base := 0) ⟨g, T, by rw [hl], Nat.zero_le _, hB⟩ (by rw [hl]; rcases hz with e | e <;> rw [e] <;> decide)
    exact ⟨g, by rw [he, e1, hl], hs, hg, hB.lt, hL⟩
theorem Do_sz (q vb : Value) (B kind sz : Nat) (key b : List UInt8) (back : Bool) (w : World) (hk : kind = 1 ∨ kind = 2) (h : Cip w B q kind key) (hB : B ≤ w.heap.size) (hf : pfits kind key.length = true) (hs : SlB w vb b) (hb : b.length = sz) (hz : psize kind = sz) :
    Calls Try.prog 13 #[q, vb, .bool back] w fun e w' => ∃ g, e = .returned (.tuple #[.slice (some ⟨g, 0, none⟩) sz sz, .nilIface]) ∧ SlB w' (.slice (some ⟨g, 0, none⟩) sz sz) (pdo kind key b back) ∧ w.heap.size ≤ g ∧ g < w'.heap.size ∧ Below w.heap.size w w' :=
  (Do_any q vb B kind key b back w hk h hB hf hs (hb.trans hz.symm)).mono fun e w' ⟨v', he, ⟨g, T, _, e1, hg, hBk⟩, hL⟩ => by
    have hl : (pdo kind key b back).length = sz := by rw [pdo_len _ _ _ _ hk, hz]
    have hps := psize_le kind
    rw [hz] at hps
    have hs : SlB w' (.slice (some ⟨g, 0, none⟩) sz sz) (pdo kind key b back) := New.slB (base := 0) ⟨g, T, by rw [hl], Nat.zero_le _, hBk⟩ (by rw [hl]; rcases hps with e | e <;> rw [e] <;> decide)
    exact ⟨g, by rw [he, e1, hl], hs, hg, hBk.lt, hL⟩
set_option maxHeartbeats 3200000 in
set_option maxRecDepth 100000 in
theorem Cmac_any (q vt : Value) (B kind n : Nat) (key text : List UInt8) (w : World) (hk : kind = 1 ∨ kind = 2) (h : Cip w B q kind key) (hB : B ≤ w.heap.size) (hf : pfits kind key.length = true) (hs : SlB w vt text) (hl : text.length ≤ 1000) (hn1 : 1 ≤ n) (hn2 : n ≤ psize kind) :
    Calls Try.prog 15 #[q, vt, .int .i64 n] w fun e w' => ∃ v, e = .returned (.tuple #[v, .nilIface]) ∧ Own w' w.heap.size v ((pcmac kind key text).take n) ∧ Below w.heap.size w w' := by
  obtain ⟨N, hN⟩ : ∃ N, w.heap.size = N := ⟨_, rfl⟩
  have HN := Lib.hid hN
  have HS := Lib.hid (fun (w' : World) (hw' : Below N w w') => Size_any q kind B key w' (h.below hw' (by omega)))
  have HCip := Lib.hid (fun (w' : World) (hw' : Below N w w') => h.below hw' (show B ≤ N by omega))
  have HT := Lib.hid (fun (w' : World) (hw' : Below N w w') => hs.below (by rw [hN]; exact hw'))
  have hps := psize_le kind
  obtain ⟨sz, es⟩ : ∃ sz, psize kind = sz := ⟨_, rfl⟩
  have hzl : (pzer kind key).length = sz := by rw [← es]; exact pzer_len kind key hk
  have hcm : pcmac kind key text = pchain kind key (pfull sz text (pzer kind key)) ((pfull sz text (pzer kind key)).length / sz) := by rw [← es]; rfl
  have hz0 : pzer kind key = pdo kind key (List.replicate sz 0) false := by rw [← es]; rfl
  obtain ⟨l, el⟩ : ∃ l, pzer kind key = l := ⟨_, rfl⟩
  rw [el] at hzl hcm hz0
  rw [es] at hn2 hps
  have hpl := pfull_len sz text l (by omega) hzl
  have hvt := hs.form rfl
  obtain ⟨L, eL⟩ : ∃ L, text.length = L := ⟨_, rfl⟩
  rw [eL] at hl hvt
  obtain ⟨At, ct, rfl⟩ := hvt
  have ES := Lib.hid es
  have EL := Lib.hid eL
  have HZL := Lib.hid hzl
  have HCM := Lib.hid hcm
  have HZ0 := Lib.hid hz0
  have HPS := Lib.hid hps
  have HPL := Lib.hid hpl
  have hsz1 : 8 ≤ sz := by omega
  have hsz2 : sz ≤ 16 := by omega
  clear hs h es eL hzl hcm hz0 hps hpl el
  by_cases hp : needPad L sz = true
  · have hfull : pfull sz text l = turnEnd (ppad text sz) (pdbl (pdbl l)) := by unfold pfull; rw [EL.out, hp]; rfl
    obtain ⟨f, ef⟩ : ∃ f, ppad text sz = f := ⟨_, rfl⟩
    obtain ⟨s, esx⟩ : ∃ s, pdbl (pdbl l) = s := ⟨_, rfl⟩
    have hsl : s.length = sz := by rw [← esx, pdbl_len, pdbl_len]; exact HZL.out
    rw [ef, esx] at hfull
    have HF := Lib.hid hfull
    have EF := Lib.hid ef
    have ESX := Lib.hid esx
    have HSL := Lib.hid hsl
    clear hfull ef esx hsl
    have hc1 : ((L : Int) == 0) = true ∨ (((L : Int) == 0) = false ∧ ((L : Int) % (sz : Int) != 0) = true) := by
      unfold needPad at hp
      by_cases e0 : L = 0
      · left; subst e0; rfl
      · right
        have h1 : ((L : Int) == 0) = false := by simp; omega
        refine ⟨h1, ?_⟩
        have : ((L : Int) % (sz : Int)) = ((L % sz : Nat) : Int) := by simp
        rw [this]
        have : ¬ L % sz = 0 := by simpa [e0] using hp
        simp; omega
    have hsz0 : ¬ (sz : Int) = 0 := by omega
    have HP := Lib.hid hp
    clear hp
    rcases hc1 with hc1 | ⟨hc1, hc2⟩
    all_goals
      go_enter Try.func15, Try.ntmps15
      go_wp2_with fail
      refine (HS.out _ (Below.refl N w)).mono ?_
      rintro e w9 ⟨rfl, h9⟩
      rw [h9, ES.out]
      clear h9 w9
      go_wp2_with (refine make_new rfl 22 5 _ _ rfl sz (by kernel_rfl) (by kernel_rfl) .i64 .i64 rfl rfl (by omega) ?_; intro w1 hB1 hG1 hs1)
      have hL1 : Below N w w1 := below_none (Below.refl N w) (by omega) hG1
      have h1s := hL1.size
      rw [hN] at hB1 h1s
      have hs0 : SlB w1 (.slice (some ⟨N, 0, none⟩) sz sz) (List.replicate sz 0) := by
        have := New.slB (w := w1) (base := 0) (v := .slice (some ⟨N, 0, none⟩) sz sz) (l := List.replicate sz 0) ⟨N, 5, by rw [List.length_replicate], Nat.zero_le _, hB1⟩ (by rw [List.length_replicate]; unfold maxLen; omega)
        exact this
      refine (Do_sz q _ B kind sz key _ false w1 hk (HCip.out w1 hL1) (by omega) hf hs0 (List.length_replicate ..) ES.out).mono ?_
      rintro e w2 ⟨g2, rfl, hS2, hg2, hg2', hL2⟩
      rw [← HZ0.out] at hS2
      have hM2 : Below N w w2 := below_more hL1 hL2 h1s
      have h2s := hM2.size
      rw [hN] at h2s
      clear hs0 hB1 hG1 hs1 hL1 hL2 h1s
      go_wp2_with fail
      refine (doubled_sz _ l sz w2 hS2 HZL.out HPS.out).mono ?_
      rintro e w3 ⟨g3, rfl, hS3, hg3, hg3', hL3⟩
      have hM3 : Below N w w3 := below_more hM2 hL3 h2s
      have h3s := hM3.size
      rw [hN] at h3s
      clear hS2 hg2 hg2' hM2 h2s hL3
      go_wp2_with fail
      refine (clone_any _ text w3 (HT.out w3 hM3) (by rw [EL.out]; omega)).mono ?_
      rintro e w4 ⟨v4, rfl, hO4, hL4⟩
      have hS4 := hS3.below hL4
      have hM4 : Below N w w4 := below_more hM3 hL4 h3s
      have h4s := hM4.size
      rw [hN] at h4s
      obtain ⟨A4, c4, rfl⟩ := hO4.slB.form EL.out
      clear hS3 hg3 hg3' hM3 h3s hL4 hO4
      go_wp2_with fail
      refine (doubled_sz _ (pdbl l) sz w4 hS4 (by rw [pdbl_len]; exact HZL.out) HPS.out).mono ?_
      rintro e w5 ⟨g5, rfl, hS5, hg5, hg5', hL5⟩
      rw [ESX.out] at hS5
      have hM5 : Below N w w5 := below_more hM4 hL5 h4s
      have h5s := hM5.size
      rw [hN] at h5s
      clear hS4 hM4 h4s hL5
      go_wp2_with fail
      refine (Pad_any _ text sz w5 (HT.out w5 hM5) (by rw [EL.out]; omega) (by omega) (by omega)).mono ?_
      rintro e w6 ⟨v6, rfl, hO6, hL6⟩
      rw [EF.out] at hO6
      have hS6 := hS5.below hL6
      have hM6 : Below N w w6 := below_more hM5 hL6 h5s
      have h6s := hM6.size
      rw [hN] at h6s
      clear hS5 hM5 hL6
      have hNB : N ≤ w5.heap.size := h5s
      have ge_pad : sz ≤ f.length := by rw [← EF.out]; exact Nat.le_of_dvd (by rw [ppad_len]; omega) (Nat.dvd_of_mod_eq_zero (ppad_mod text sz (by omega)))
      have le_pad : f.length ≤ 1100 := by rw [← EF.out, ppad_len, EL.out]; have := pzeros_lt L sz (by omega); omega
      have mul_pad : f.length = sz * (f.length / sz) := by rw [← EF.out]; exact (Nat.mul_div_cancel' (Nat.dvd_of_mod_eq_zero (ppad_mod text sz (by omega)))).symm
      obtain ⟨F, eF⟩ : ∃ F, f.length = F := ⟨_, rfl⟩
      have hF1 : sz ≤ F := by rw [← eF]; exact ge_pad
      have hF2 : F ≤ 1100 := by rw [← eF]; exact le_pad
      have hFm : F = sz * (F / sz) := by rw [← eF]; exact mul_pad
      obtain ⟨gf, cf, rfl, hgf, hgf', _, _, hcf⟩ := hO6.form (by omega)
      rw [eF] at hO6 hcf ⊢
      have hne : gf ≠ g5 := by omega
      have HO := Lib.hid hO6
      have HSX := Lib.hid hS6
      have HM := Lib.hid hM6
      have EFL := Lib.hid eF
      have HFM := Lib.hid hFm
      have HBc := Lib.hid (show N ≤ w5.heap.size from hNB)
      clear hO6 hS6 hM6 eF hFm
      go_wp2_with fail
      go_loopw [61] (fun i wr => ∃ k : Nat, k ≤ sz ∧ i = .int .i64 k ∧ Own wr w5.heap.size (.slice (some ⟨gf, 0, none⟩) F cf) (turnTo f s k) ∧ SlB wr (.slice (some ⟨g5, 0, none⟩) sz sz) s ∧ Below N w wr) (fun i _ => sz - (intOf i).toNat)
      case atStart => exact ⟨0, by omega, rfl, by rw [turnTo_zero]; exact HO.out, HSX.out, HM.out⟩
      case round =>
        clear HO HSX HM
        obtain ⟨k, hkk, rfl, hO, hS, hM⟩ := hrel
        have HO := Lib.hid hO
        have HS9 := Lib.hid hS
        have HM := Lib.hid hM
        have hwN := hM.size
        rw [HN.out] at hwN
        by_cases hlt : k < sz
        · have hi : F - sz + k < F := by omega
          have c1 : wr.cell? ⟨gf, F - sz + k, none⟩ = some (.int .u8 (bv (g8 f (F - sz + k)))) := by
            have := hO.cell (F - sz + k) (by rw [turnTo_len, EFL.out]; exact hi)
            rw [turnTo_at _ _ _ _ (by rw [EFL.out]; exact hi), EFL.out, HSL.out, if_neg (by omega)] at this
            exact this
          have c2 : wr.cell? ⟨g5, k, none⟩ = some (.int .u8 (bv (g8 s k))) := by
            obtain ⟨A', c', e', _, _, _, h4⟩ := hS
            cases e'
            obtain ⟨g', o', e2, hr⟩ := h4 (by omega)
            cases e2
            have := hr k (by rw [HSL.out]; exact hlt)
            rw [Nat.zero_add] at this
            exact this
          have f1 : wr.frozen? ⟨gf, F - sz + k, none⟩ = false := hO.free _
          have i1 : (sz : Int) ≤ (F : Int) := by omega
          have HLT := Lib.hid hlt
          clear hO hS hM hi
          go_wp2
          go_region
          go_wp2
          go_roundw
          case rel =>
            have hG : wr.grownBy ((wr.setCell ⟨gf, F - sz + k, none⟩ (.int .u8 (bv (g8 f (F - sz + k) ^^^ g8 s k)))).drew) (some gf) := grown_drew (grown_set (grown_refl _ _) _ _)
            refine ⟨k + 1, HLT.out, by go_num, ?_, HS9.out.old hG (.inr (by simp [Value.ownBlock]; exact fun e => hne e.symm)), below_new HM.out hwN hG (by have := HBc.out; omega)⟩
            have h1 := HO.out
            have hst := Own.stored (l := turnTo f s k) (cap := cf) (g := gf) (base := w5.heap.size) (w := wr) (by rw [turnTo_len, EFL.out]; exact h1) (F - sz + k) (g8 f (F - sz + k) ^^^ g8 s k)
            have hset := turnTo_set f s k (by rw [HSL.out]; exact HLT.out) (by rw [HSL.out, EFL.out]; exact hF1)
            rw [EFL.out, HSL.out] at hset
            rw [hset, turnTo_len, EFL.out] at hst
            exact hst.drew
          case measure => have : k < sz := HLT.out; simp [intOf]; omega
        · have hkz : k = sz := by omega
          have hfin : SlB wr (.slice (some ⟨gf, 0, none⟩) F cf) (pfull sz text l) := by
            have := hO.slB
            rw [hkz, ← HSL.out, turnTo_all _ _ (by rw [HSL.out, EFL.out]; exact hF1), ← HF.out] at this
            exact this
          have hpf : (pfull sz text l).length = F := by rw [HF.out, turnEnd_len _ _ (by rw [HSL.out, EFL.out]; exact hF1), EFL.out]
          have hch := chain_any q (.slice (some ⟨gf, 0, none⟩) F cf) B (F / sz) kind key (pfull sz text l) wr hk (HCip.out wr hM) (by omega) hf hfin (by rw [hpf, ES.out]; exact HFM.out) (by
            rcases Nat.eq_zero_or_pos (F / sz) with e | e
            · have h := HFM.out
              rw [e, Nat.mul_zero] at h
              omega
            · exact e) (by have := Nat.div_le_self F sz; omega)
          have hcm2 : pcmac kind key text = pchain kind key (pfull sz text l) (F / sz) := by rw [HCM.out, hpf]
          rw [← hcm2] at hch
          have HCH := Lib.hid hch
          clear hO hS hM hfin hpf hch hcm2 hkz
          go_wp2_with fail
          refine HCH.out.mono ?_
          rintro e w7 ⟨v7, rfl, hS7, hv7, hL7⟩
          have hcl : (pcmac kind key text).length = sz := by rw [pcmac_len kind key text hk]; exact ES.out
          obtain ⟨A7, c7, e7, _, hc7, _, hr7⟩ := id hS7
          obtain ⟨g7, o7, rfl, _⟩ := hr7 (by omega)
          subst e7
          rw [hcl] at hS7 hc7 ⊢
          have hM7 := below_more HM.out hL7 hwN
          have HS7 := Lib.hid (hS7.take (n := n) (by rw [hcl]; omega))
          have HM7 := Lib.hid hM7
          have j1 : (n : Int) ≤ (c7 : Int) := by omega
          have HCL := Lib.hid hcl
          clear hS7 hL7 hv7 hr7 hM7 hcl
          go_wp2_with fail
          refine (clone_any _ _ w7 HS7.out (by rw [List.length_take, HCL.out]; omega)).mono ?_
          rintro e w8 ⟨v8, rfl, hO8, hL8⟩
          have h7s := HM7.out.size
          rw [HN.out] at h7s
          have HO8 := Lib.hid (hO8.lower h7s)
          have HM8 := Lib.hid (below_more HM7.out hL8 h7s)
          obtain ⟨A8, c8, e8⟩ := hO8.slB.form (L := n) (by rw [List.length_take, HCL.out]; omega)
          subst e8
          clear hO8 hL8
          go_wp2_with fail
          go_ret2
          exact ⟨_, rfl, by rw [HN.out]; exact HO8.out, by rw [HN.out]; exact HM8.out⟩
  · have hp' : needPad L sz = false := by simpa using hp
    have hwb := whole_blocks text sz (by omega) (by rw [EL.out]; exact hp')
    have hfull : pfull sz text l = turnEnd text (pdbl l) := by unfold pfull; rw [EL.out, hp']; rfl
    obtain ⟨s, esx⟩ : ∃ s, pdbl l = s := ⟨_, rfl⟩
    have hsl : s.length = sz := by rw [← esx, pdbl_len]; exact HZL.out
    rw [esx] at hfull
    have HF := Lib.hid hfull
    have ESX := Lib.hid esx
    have HSL := Lib.hid hsl
    have HWB := Lib.hid hwb
    have hL0 : sz ≤ L := by rw [← EL.out]; exact hwb.1
    have hc1 : ((L : Int) == 0) = false := by simp; omega
    have hc2 : ((L : Int) % (sz : Int) != 0) = false := by
      have : ((L : Int) % (sz : Int)) = ((L % sz : Nat) : Int) := by simp
      rw [this]
      have h2 := hwb.2
      rw [EL.out] at h2
      rw [h2]; rfl
    have hsz0 : ¬ (sz : Int) = 0 := by omega
    clear hfull esx hsl hp hp' hwb
    all_goals
      go_enter Try.func15, Try.ntmps15
      go_wp2_with fail
      refine (HS.out _ (Below.refl N w)).mono ?_
      rintro e w9 ⟨rfl, h9⟩
      rw [h9, ES.out]
      clear h9 w9
      go_wp2_with (refine make_new rfl 22 5 _ _ rfl sz (by kernel_rfl) (by kernel_rfl) .i64 .i64 rfl rfl (by omega) ?_; intro w1 hB1 hG1 hs1)
      have hL1 : Below N w w1 := below_none (Below.refl N w) (by omega) hG1
      have h1s := hL1.size
      rw [hN] at hB1 h1s
      have hs0 : SlB w1 (.slice (some ⟨N, 0, none⟩) sz sz) (List.replicate sz 0) := by
        have := New.slB (w := w1) (base := 0) (v := .slice (some ⟨N, 0, none⟩) sz sz) (l := List.replicate sz 0) ⟨N, 5, by rw [List.length_replicate], Nat.zero_le _, hB1⟩ (by rw [List.length_replicate]; unfold maxLen; omega)
        exact this
      refine (Do_sz q _ B kind sz key _ false w1 hk (HCip.out w1 hL1) (by omega) hf hs0 (List.length_replicate ..) ES.out).mono ?_
      rintro e w2 ⟨g2, rfl, hS2, hg2, hg2', hL2⟩
      rw [← HZ0.out] at hS2
      have hM2 : Below N w w2 := below_more hL1 hL2 h1s
      have h2s := hM2.size
      rw [hN] at h2s
      clear hs0 hB1 hG1 hs1 hL1 hL2 h1s
      go_wp2_with fail
      refine (doubled_sz _ l sz w2 hS2 HZL.out HPS.out).mono ?_
      rintro e w3 ⟨g3, rfl, hS3, hg3, hg3', hL3⟩
      rw [ESX.out] at hS3
      have hM3 : Below N w w3 := below_more hM2 hL3 h2s
      have h3s := hM3.size
      rw [hN] at h3s
      clear hS2 hg2 hg2' hM2 h2s hL3
      go_wp2_with fail
      refine (clone_any _ text w3 (HT.out w3 hM3) (by rw [EL.out]; omega)).mono ?_
      rintro e w4 ⟨v4, rfl, hO4, hL4⟩
      have hS4 := hS3.below hL4
      have hM4 : Below N w w4 := below_more hM3 hL4 h3s
      have h4s := hM4.size
      rw [hN] at h4s
      clear hS3 hM3 hL4
      have hNB : N ≤ w3.heap.size := h3s
      have ge_w : sz ≤ text.length := HWB.out.1
      have le_w : text.length ≤ 1100 := by rw [EL.out]; omega
      have mul_w : text.length = sz * (text.length / sz) := (Nat.mul_div_cancel' (Nat.dvd_of_mod_eq_zero HWB.out.2)).symm
      have eF : text.length = L := EL.out
      have hF1 : sz ≤ L := by rw [← eF]; exact ge_w
      have hF2 : L ≤ 1100 := by rw [← eF]; exact le_w
      have hFm : L = sz * (L / sz) := by rw [← eF]; exact mul_w
      obtain ⟨gf, cf, rfl, hgf, hgf', _, _, hcf⟩ := hO4.form (by omega)
      rw [eF] at hO4 hcf ⊢
      have hne : gf ≠ g3 := by omega
      have HO := Lib.hid hO4
      have HSX := Lib.hid hS4
      have HM := Lib.hid hM4
      have EFL := Lib.hid eF
      have HFM := Lib.hid hFm
      have HBc := Lib.hid (show N ≤ w3.heap.size from hNB)
      clear hO4 hS4 hM4 eF hFm
      go_wp2_with fail
      go_loopw [61] (fun i wr => ∃ k : Nat, k ≤ sz ∧ i = .int .i64 k ∧ Own wr w3.heap.size (.slice (some ⟨gf, 0, none⟩) L cf) (turnTo text s k) ∧ SlB wr (.slice (some ⟨g3, 0, none⟩) sz sz) s ∧ Below N w wr) (fun i _ => sz - (intOf i).toNat)
      case atStart => exact ⟨0, by omega, rfl, by rw [turnTo_zero]; exact HO.out, HSX.out, HM.out⟩
      case round =>
        clear HO HSX HM
        obtain ⟨k, hkk, rfl, hO, hS, hM⟩ := hrel
        have HO := Lib.hid hO
        have HS9 := Lib.hid hS
        have HM := Lib.hid hM
        have hwN := hM.size
        rw [HN.out] at hwN
        by_cases hlt : k < sz
        · have hi : L - sz + k < L := by omega
          have c1 : wr.cell? ⟨gf, L - sz + k, none⟩ = some (.int .u8 (bv (g8 text (L - sz + k)))) := by
            have := hO.cell (L - sz + k) (by rw [turnTo_len, EFL.out]; exact hi)
            rw [turnTo_at _ _ _ _ (by rw [EFL.out]; exact hi), EFL.out, HSL.out, if_neg (by omega)] at this
            exact this
          have c2 : wr.cell? ⟨g3, k, none⟩ = some (.int .u8 (bv (g8 s k))) := by
            obtain ⟨A', c', e', _, _, _, h4⟩ := hS
            cases e'
            obtain ⟨g', o', e2, hr⟩ := h4 (by omega)
            cases e2
            have := hr k (by rw [HSL.out]; exact hlt)
            rw [Nat.zero_add] at this
            exact this
          have f1 : wr.frozen? ⟨gf, L - sz + k, none⟩ = false := hO.free _
          have i1 : (sz : Int) ≤ (L : Int) := by omega
          have HLT := Lib.hid hlt
          clear hO hS hM hi
          go_wp2
          go_region
          go_wp2
          go_roundw
          case rel =>
            have hG : wr.grownBy ((wr.setCell ⟨gf, L - sz + k, none⟩ (.int .u8 (bv (g8 text (L - sz + k) ^^^ g8 s k)))).drew) (some gf) := grown_drew (grown_set (grown_refl _ _) _ _)
            refine ⟨k + 1, HLT.out, by go_num, ?_, HS9.out.old hG (.inr (by simp [Value.ownBlock]; exact fun e => hne e.symm)), below_new HM.out hwN hG (by have := HBc.out; omega)⟩
            have h1 := HO.out
            have hst := Own.stored (l := turnTo text s k) (cap := cf) (g := gf) (base := w3.heap.size) (w := wr) (by rw [turnTo_len, EFL.out]; exact h1) (L - sz + k) (g8 text (L - sz + k) ^^^ g8 s k)
            have hset := turnTo_set text s k (by rw [HSL.out]; exact HLT.out) (by rw [HSL.out, EFL.out]; exact hF1)
            rw [EFL.out, HSL.out] at hset
            rw [hset, turnTo_len, EFL.out] at hst
            exact hst.drew
          case measure => have : k < sz := HLT.out; simp [intOf]; omega
        · have hkz : k = sz := by omega
          have hfin : SlB wr (.slice (some ⟨gf, 0, none⟩) L cf) (pfull sz text l) := by
            have := hO.slB
            rw [hkz, ← HSL.out, turnTo_all _ _ (by rw [HSL.out, EFL.out]; exact hF1), ← HF.out] at this
            exact this
          have hpf : (pfull sz text l).length = L := by rw [HF.out, turnEnd_len _ _ (by rw [HSL.out, EFL.out]; exact hF1), EFL.out]
          have hch := chain_any q (.slice (some ⟨gf, 0, none⟩) L cf) B (L / sz) kind key (pfull sz text l) wr hk (HCip.out wr hM) (by omega) hf hfin (by rw [hpf, ES.out]; exact HFM.out) (by
            rcases Nat.eq_zero_or_pos (L / sz) with e | e
            · have h := HFM.out
              rw [e, Nat.mul_zero] at h
              omega
            · exact e) (by have := Nat.div_le_self L sz; omega)
          have hcm2 : pcmac kind key text = pchain kind key (pfull sz text l) (L / sz) := by rw [HCM.out, hpf]
          rw [← hcm2] at hch
          have HCH := Lib.hid hch
          clear hO hS hM hfin hpf hch hcm2 hkz
          go_wp2_with fail
          refine HCH.out.mono ?_
          rintro e w7 ⟨v7, rfl, hS7, hv7, hL7⟩
          have hcl : (pcmac kind key text).length = sz := by rw [pcmac_len kind key text hk]; exact ES.out
          obtain ⟨A7, c7, e7, _, hc7, _, hr7⟩ := id hS7
          obtain ⟨g7, o7, rfl, _⟩ := hr7 (by omega)
          subst e7
          rw [hcl] at hS7 hc7 ⊢
          have hM7 := below_more HM.out hL7 hwN
          have HS7 := Lib.hid (hS7.take (n := n) (by rw [hcl]; omega))
          have HM7 := Lib.hid hM7
          have j1 : (n : Int) ≤ (c7 : Int) := by omega
          have HCL := Lib.hid hcl
          clear hS7 hL7 hv7 hr7 hM7 hcl
          go_wp2_with fail
          refine (clone_any _ _ w7 HS7.out (by rw [List.length_take, HCL.out]; omega)).mono ?_
          rintro e w8 ⟨v8, rfl, hO8, hL8⟩
          have h7s := HM7.out.size
          rw [HN.out] at h7s
          have HO8 := Lib.hid (hO8.lower h7s)
          have HM8 := Lib.hid (below_more HM7.out hL8 h7s)
          obtain ⟨A8, c8, e8⟩ := hO8.slB.form (L := n) (by rw [List.length_take, HCL.out]; omega)
          subst e8
          clear hO8 hL8
          go_wp2_with fail
          go_ret2
          exact ⟨_, rfl, by rw [HN.out]; exact HO8.out, by rw [HN.out]; exact HM8.out⟩
end Go.Proofs.Ytjbdhnmkeaogcaa
