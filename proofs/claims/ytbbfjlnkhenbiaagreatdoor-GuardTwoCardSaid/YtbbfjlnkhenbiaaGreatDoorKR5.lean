/- The reference's AES: a block enciphered. -/
import Derived.Test.YtbbfjlnkhenbiaaGreatDoorKR2
import Derived.Test.YtbbfjlnkhenbiaaGreatDoorKR3
import Derived.Test.YtbbfjlnkhenbiaaGreatDoorKR4
set_option linter.unusedVariables false
set_option linter.unusedSimpArgs false
namespace Go.Proofs.YtbbfjlnkhenbiaaGreatDoor
open Go Go.RowKit Lk
theorem rWords_any (vk : Value) (key : List UInt8) (w : World) (hk : SlB w vk key) (hkl : key.length = 16 ∨ key.length = 24 ∨ key.length = 32) :
    Calls Tryz.prog 100 #[vk] w fun e w' => ∃ v, e = .returned v ∧ Own w' w.heap.size v (pwords key) ∧ Below w.heap.size w w' := by
  rcases hkl with h | h | h
  · exact rWords_4 vk key w hk h
  · exact rWords_6 vk key w hk h
  · exact rWords_8 vk key w hk h
set_option maxHeartbeats 12800000 in
set_option maxRecDepth 100000 in
theorem rEncrypt_any (vk : Value) (key b : List UInt8) (w : World) (hk : SlB w vk key) (hn : key.length = 16 ∨ key.length = 24 ∨ key.length = 32) (hb : b.length = 16) :
    Calls Tryz.prog 81 #[vk, .agg (Bs b)] w fun e w' => e = .returned (.agg (Bs (pEnc key b))) ∧ Below w.heap.size w w' := by
  obtain ⟨N, hN⟩ : ∃ N, w.heap.size = N := ⟨_, rfl⟩
  have HN := Lib.hid hN
  obtain ⟨k1, k2, k3, k4⟩ := nrounds_le hn
  have HWL := Lib.hid (pwords_len key hn)
  have hnk : nrounds key.length = key.length / 4 + 6 := by rcases hn with h | h | h <;> rw [h] <;> rfl
  obtain ⟨nr, enr⟩ : ∃ nr, nrounds key.length = nr := ⟨_, rfl⟩
  rw [enr] at k1 k2 hnk HWL
  obtain ⟨ws, ews⟩ : ∃ ws, pwords key = ws := ⟨_, rfl⟩
  rw [ews] at HWL
  have HK := Lib.hid hk
  have HKN := Lib.hid hn
  have HB := Lib.hid hb
  have HWS := Lib.hid ews
  have HNR := Lib.hid enr
  obtain ⟨A, c, rfl, _⟩ := hk
  obtain ⟨K, eK⟩ : ∃ K, key.length = K := ⟨_, rfl⟩
  rw [eK] at hnk ⊢
  have hK : K ≤ 32 := by rw [eK] at hn; omega
  have hq : ((K : Int) / 4 + 6) = (nr : Int) := by omega
  have EK := Lib.hid eK
  rw [eK] at HK
  clear hn hb ews enr k3 k4 hnk eK
  go_enter Tryz.func81, Tryz.ntmps81
  go_wp2_with (first
    | ((with_reducible show wpList _ _ _ _ _ w); refine box_blk (w := w) rfl 53 _ rfl b rfl ?_; intro w0 hB0 hG0 hs0; have HB0 := Lib.hid hB0; have HG0 := Lib.hid hG0; clear hB0 hG0)
    | ((with_reducible show wpList _ _ _ _ _ w0); refine alloc_row (w := w0) rfl 53 rfl (.agg (Bs (List.replicate 16 0))) 16 (fun _ => by kernel_rfl) rfl ?_; intro w1 hR1 _ hG1 hs1; have HR1 := Lib.hid hR1; have HL1 := Lib.hid (show Below w.heap.size w w1 from below_none (below_none (Below.refl _ _) (Nat.le_refl _) HG0.out) HG0.out.size hG1); have HB1 := Lib.hid (show Blk w1 w.heap.size 53 b from HB0.out.old hG1 (by simp)); clear hR1 hG1)
    | (go_at_call 100; refine (rWords_any _ key w1 (HK.out.below HL1.out) HKN.out).mono ?_; rintro e w2 ⟨vw, rfl, hOw, hL2⟩; rw [HWS.out] at hOw; obtain ⟨gw, cw, rfl, hgw1, hgw2, hRw, hfw, hcw⟩ := hOw.form (by rw [HWL.out]; omega); rw [HWL.out]; rw [HWL.out] at hcw; have HRw := Lib.hid hRw; have HL2 := Lib.hid hL2; clear hOw hRw hL2 hfw)
    | (go_at_call 101; refine (rBoxes_any w2).mono ?_; rintro e w3 ⟨rfl, hL3⟩; have HL3 := Lib.hid hL3; obtain ⟨gb, egb⟩ : ∃ g, w3.heap.size = g := ⟨_, rfl⟩; have HGB := Lib.hid egb; clear hL3)
    | ((with_reducible show wpList _ _ _ _ _ w3); refine alloc_row (w := w3) rfl 176 rfl (.agg (Bs (List.replicate 256 0))) 256 (fun _ => by kernel_rfl) rfl ?_; intro w4 hR4 _ hG4 hs4; rw [egb] at hR4; rw [egb])
    | ((with_reducible show wpList _ _ _ _ _ w4); refine store_blk (w := w4) rfl 176 _ _ rfl gb 176 256 (bx 255) rfl rfl hR4 (bx_len _) (by kernel_rfl) ?_; intro w5 hB5 hG5 hs5; have HX5 := Lib.hid hB5; have HG5 := Lib.hid (show w3.grownBy w5 (some gb) from grown_trans (grown_weakr hG4) hG5); clear hR4 hG4 hs4 hB5 hG5))
  have HN1 := Lib.hid (show w.heap.size = N from HN.out)
  have hgwN : N + 2 ≤ gw := by have := HN.out; omega
  have hgbN : N + 2 ≤ gb := by have := HL2.out.size; have := HL3.out.size; have := HN.out; have := HGB.out; omega
  have hbw : gw < gb := by have := HL3.out.size; have := HGB.out; omega
  have HR5 := Lib.hid (show Row w5 (N + 1) 53 16 from by
    have h1 : w0.heap.size = N + 1 := by have := HN.out; omega
    have := HR1.out
    rw [h1] at this
    exact ((this.below HL2.out (by omega)).below HL3.out (by have := HL2.out.size; omega)).old HG5.out (by simp; omega))
  have HB5 := Lib.hid (show Blk w5 N 53 b from by
    have := HB1.out
    rw [HN.out] at this
    exact ((this.below HL2.out (by have := HN.out; omega)).below HL3.out (by have := HL2.out.size; have := HN.out; omega)).old HG5.out (by simp; omega))
  have HW5 := Lib.hid (show Rd w5 gw 0 ws from ((HRw.out.below HL3.out (by omega)).old HG5.out (by simp; omega)))
  have HM5 := Lib.hid (show Below N w w5 from by
    have h1 := HL1.out
    rw [HN.out] at h1
    exact below_new (below_more (below_more h1 HL2.out (by have := HL1.out.size; have := HN.out; omega)) HL3.out (by have := HL1.out.size; have := HL2.out.size; have := HN.out; omega)) (by have := HL1.out.size; have := HL2.out.size; have := HL3.out.size; have := HN.out; omega) HG5.out (by omega))
  have HZ5 := Lib.hid (show gb < w5.heap.size from HX5.out.lt)
  have hl1 : 16 * nr + 16 ≤ 16 * (nr + 1) := by omega
  have hnr14 : nr ≤ 14 := k2
  clear HB0 HG0 HR1 HL1 HB1 HRw HL2 HL3 HG5 hN hs0 hs1 hgw1 hgw2 hs5 egb
  go_loopw [8] (fun i wr => ∃ k : Nat, k ≤ 16 ∧ i = .int .i64 k ∧ Blk wr N 53 (upd (fun i => g8 b i ^^^ g8 ws (16 * 0 + i)) b k) ∧ w5.grownBy wr (some N)) (fun i _ => 16 - (intOf i).toNat)
  case atStart => exact ⟨0, by omega, rfl, by rw [upd_zero _ _ HB.out]; exact HB5.out, grown_refl _ _⟩
  case round =>
    obtain ⟨k, hk, rfl, hB, hG⟩ := hrel
    have hW := HW5.out.old hG (by simp; omega)
    by_cases hlt : k < 16
    · have c1 := hB.cell k (by rw [upd_len]; exact hlt)
      rw [upd_at _ _ _ _ hlt, if_neg (by omega)] at c1
      have c2 := hW.cell k (by rw [HWL.out]; omega)
      rw [Nat.zero_add] at c2
      have f1 := hB.free k
      have HSE := Lib.hid (upd_set (fun i => g8 b i ^^^ g8 ws (16 * 0 + i)) b k hlt)
      rw [show 16 * 0 + k = k by omega] at HSE
      generalize g8 b k = x1 at c1 HSE
      generalize g8 ws k = x2 at c2 HSE
      have hkL : (k : Int) < 16 * ((nr : Int) + 1) := by omega
      have HBk := Lib.hid hB
      have HG := Lib.hid hG
      have HLT := Lib.hid hlt
      clear hB hG hW hlt hk
      have hlt : (k : Int) < 16 := by have := HLT.out; omega
      go_wp2
      go_region
      go_wp2
      go_roundw
      case rel =>
        refine ⟨k + 1, HLT.out, by go_num, ?_, grown_drew (grown_set HG.out _ _)⟩
        rw [← HSE.out]
        exact (HBk.out.set k _).drew
      case measure => have := HLT.out; simp [intOf]; omega
    · have hk16 : k = 16 := by omega
      rw [hk16] at hB
      have hki : ¬ ((k : Int) < 16) := by omega
      have HX6 := Lib.hid (HX5.out.old hG (by simp; omega))
      have HR6 := Lib.hid (HR5.out.old hG (by simp))
      have HM6 := Lib.hid (show Below N w wr from below_new HM5.out (by have := HZ5.out; omega) hG (Nat.le_refl _))
      have HZ6 := Lib.hid (show gb < wr.heap.size from HX6.out.lt)
      have HW6 := Lib.hid hW
      have HB6 := Lib.hid (show Blk wr N 53 (encTo ws b nr 0) from hB)
      clear HX5 HR5 HM5 HZ5 HW5 HB5 hB hG hW hk16 hk hlt
      obtain ⟨wa, rfl⟩ : ∃ wa : World, wa = wr := ⟨_, rfl⟩
      go_wp2
      go_loopw [9] (fun i wr => ∃ r : Nat, 1 ≤ r ∧ r ≤ nr + 1 ∧ i = .int .i64 r ∧ Blk wr N 53 (encTo ws b nr (r - 1)) ∧ Row wr (N + 1) 53 16 ∧ Rd wr gw 0 ws ∧ Blk wr gb 176 (bx 255) ∧ Below N w wr) (fun i _ => nr + 1 - (intOf i).toNat)
      case atStart => exact ⟨1, by omega, by omega, rfl, HB6.out, HR6.out, HW6.out, HX6.out, HM6.out⟩
      case round =>
        clear HB6 HR6 HW6 HX6 HM6 HZ6
        obtain ⟨r, hr1, hr2, rfl, hB, hR, hW, hX, hM⟩ := hrel
        have hz := hX.lt
        have hlen := encTo_len ws b nr (r - 1)
        obtain ⟨s, es⟩ : ∃ s, encTo ws b nr (r - 1) = s := ⟨_, rfl⟩
        rw [es] at hB hlen
        have HS := Lib.hid es
        have HSL := Lib.hid hlen
        have HBr := Lib.hid hB
        have HR := Lib.hid hR
        have HW := Lib.hid hW
        have HX := Lib.hid hX
        have HM := Lib.hid hM
        obtain ⟨n0, en0⟩ : ∃ n, wr.heap.size = n := ⟨_, rfl⟩
        have EN0 := Lib.hid en0
        have hn0 : gb < n0 := by omega
        clear es hlen hB hR hW hX hM en0 hz
        by_cases hle : r ≤ nr
        · have hti : ((r : Int) ≤ (nr : Int)) := by omega
          have HR1 := Lib.hid hr1
          have HLE := Lib.hid hle
          clear hr1 hr2 hle
          go_wp2_with (first
            | ((with_reducible show wpList _ _ _ _ _ wr); refine alloc_row (w := wr) rfl 53 rfl (.agg (Bs (List.replicate 16 0))) 16 (fun _ => by kernel_rfl) rfl ?_; intro w7 _ hh7 hG7 hs7; rw [EN0.out] at hh7 hs7; rw [EN0.out]; have HB7 := Lib.hid (show Blk w7 n0 53 (List.replicate 16 0) from hh7); have HG7 := Lib.hid hG7; clear hh7 hG7))
          have HZ7 := Lib.hid (show n0 < w7.heap.size by omega)
          clear hs7
          obtain ⟨wo, ewo⟩ : ∃ wo : World, wo = w7 := ⟨_, rfl⟩
          subst ewo
          go_loopw [11] (fun i wq => ∃ c : Nat, c ≤ 4 ∧ i = .int .i64 c ∧ Blk wq n0 53 (upd (rsubAt s) (List.replicate 16 0) (4 * c)) ∧ wo.grownBy wq (some n0)) (fun i _ => 4 - (intOf i).toNat)
          case atStart => exact ⟨0, by omega, rfl, by rw [Nat.mul_zero, upd_zero _ _ rfl]; exact HB7.out, grown_refl _ _⟩
          case round =>
            obtain ⟨c, hc, rfl, hB, hG⟩ := hrel
            by_cases hc4 : c < 4
            · have HC4 := Lib.hid hc4
              have hcti : decide ((c : Int) < 4) = true := by simp; omega
              have HB := Lib.hid hB
              have HG := Lib.hid hG
              have hci : (c : Int) < 4 := by omega
              clear hB hG hc
              go_wp2
              go_loopw [12] (fun i wq => ∃ q : Nat, q ≤ 4 ∧ i = .int .i64 q ∧ Blk wq n0 53 (upd (rsubAt s) (List.replicate 16 0) (4 * c + q)) ∧ wo.grownBy wq (some n0)) (fun i _ => 4 - (intOf i).toNat)
              case atStart => exact ⟨0, by omega, rfl, by rw [Nat.add_zero]; exact HB.out, HG.out⟩
              case round =>
                clear HB HG
                obtain ⟨q, hq, rfl, hB, hG⟩ := hrel
                by_cases hq4 : q < 4
                · have HQ4 := Lib.hid hq4
                  obtain ⟨m, em⟩ : ∃ m, 4 * ((c + q) % 4) + q = m := ⟨_, rfl⟩
                  have hm : m < 16 := by omega
                  have d1 := (HBr.out.old (grown_trans (grown_weakr HG7.out) hG) (by simp; omega)).cell m (by rw [HSL.out]; exact hm)
                  have HAT := Lib.hid (show rsubAt s (4 * c + q) = gbox (g8 s m) by unfold rsubAt; rw [show (4 * c + q) / 4 = c by omega, show (4 * c + q) % 4 = q by omega, em])
                  generalize g8 s m = x at d1 HAT
                  have hx0 := bv_ge x
                  have hx1 := bv_lt x
                  have hxt : (bv x).toNat = x.toNat := by unfold bv; simp
                  have d3 := ((HX.out.old HG7.out (by simp)).old hG (by simp; omega)).cell x.toNat (by rw [bx_len]; exact x.toNat_lt)
                  rw [bx_at] at d3
                  have d4 := hB.cell (4 * c + q) (by rw [upd_len]; omega)
                  have f4 := hB.free (4 * c + q)
                  have HSE := Lib.hid (upd_set (rsubAt s) (List.replicate 16 0) (4 * c + q) (by omega))
                  have s1 : (0 : Int) ≤ 4 * (((c : Int) + (q : Int)) % 4) + (q : Int) := by omega
                  have s2 : 4 * (((c : Int) + (q : Int)) % 4) + (q : Int) < 16 := by omega
                  have s3 : (4 * (((c : Int) + (q : Int)) % 4) + (q : Int)).toNat = m := by omega
                  have s4 : (4 * (c : Int) + (q : Int)).toNat = 4 * c + q := by omega
                  have s5 : (0 : Int) ≤ 4 * (c : Int) + (q : Int) := by omega
                  have s6 : 4 * (c : Int) + (q : Int) < 16 := by omega
                  have HB := Lib.hid hB
                  have HG := Lib.hid hG
                  have hqi : (q : Int) < 4 := by omega
                  clear hB hG em hq
                  go_wp2
                  go_roundw
                  case rel =>
                    refine ⟨q + 1, HQ4.out, by go_num, ?_, grown_set HG.out _ _⟩
                    rw [show 4 * c + (q + 1) = 4 * c + q + 1 by omega, ← HSE.out, HAT.out]
                    exact HB.out.set _ _
                  case measure => have := HQ4.out; simp [intOf]; omega
                · have hq4e : q = 4 := by omega
                  rw [hq4e] at hB
                  have HB := Lib.hid hB
                  have HG := Lib.hid hG
                  have hqi : ¬ ((q : Int) < 4) := by omega
                  clear hB hG hq hq4 hq4e
                  go_wp2
                  go_roundw
                  case rel => exact ⟨c + 1, HC4.out, by go_num, by rw [show 4 * (c + 1) = 4 * c + 4 by omega]; exact HB.out, HG.out⟩
                  case measure => have := HC4.out; simp [intOf]; omega
            · have hc4e : c = 4 := by omega
              rw [hc4e] at hB
              have HB := Lib.hid (show Blk wr n0 53 (prows (pboxes gbox s) 1) from by rw [← rsub_eq s (List.replicate 16 0)]; exact hB)
              have HG := Lib.hid hG
              have hci : ¬ ((c : Int) < 4) := by omega
              clear hB hG hc hc4 hc4e
              by_cases hlt : r < nr
              · have hrti : decide ((r : Int) < (nr : Int)) = true := by simp; omega
                have hrlt : (r : Int) < (nr : Int) := by omega
                obtain ⟨wb, rfl⟩ : ∃ wb : World, wb = wr := ⟨_, rfl⟩
                have HBL := Lib.hid (prows_len (pboxes gbox s) 1)
                have HST := Lib.hid (show encTo ws b nr r = pwith (pcols [2, 3, 1, 1] (prows (pboxes gbox s) 1)) ws r by
                  have := HR1.out
                  obtain ⟨r', rfl⟩ : ∃ r', r = r' + 1 := ⟨r - 1, by omega⟩
                  simp only [encTo]
                  rw [if_pos hlt]
                  have := HS.out
                  rw [Nat.add_sub_cancel] at this
                  rw [this])
                obtain ⟨t, et⟩ : ∃ t, prows (pboxes gbox s) 1 = t := ⟨_, rfl⟩
                rw [et] at HB HBL HST
                obtain ⟨n1, en1⟩ : ∃ n, wb.heap.size = n := ⟨_, rfl⟩
                have hn1 : n0 < n1 := by have := HB.out.lt; omega
                have HLT := Lib.hid hlt
                clear et hlt
                go_wp2_with (first
                  | ((with_reducible show wpList _ _ _ _ _ wb); refine load_blk (w := wb) rfl 53 _ rfl n0 53 16 5 t (by rfl) HB.out HBL.out (by kernel_rfl) (by kernel_rfl) ?_)
                  | ((with_reducible show wpList _ _ _ _ _ wb); refine alloc_row (w := wb) rfl 53 rfl (.agg (Bs (List.replicate 16 0))) 16 (fun _ => by kernel_rfl) rfl ?_; intro wc hRc _ hGc hsc; rw [en1] at hRc; rw [en1])
                  | ((with_reducible show wpList _ _ _ _ _ wc); refine store_blk (w := wc) rfl 53 _ _ rfl n1 53 16 t (by rfl) (by rfl) hRc HBL.out (by kernel_rfl) ?_; intro wd hBd hGd hsd))
                have hGx : wb.grownBy wd (some n1) := grown_trans (grown_weakr hGc) hGd
                have HTd := Lib.hid hBd
                have HBd := Lib.hid (HB.out.old hGx (by simp; omega))
                have HGd := Lib.hid (show Below n0 wo wd from below_new (below_new (Below.refl n0 wo) (by have := HZ7.out; omega) HG.out (Nat.le_refl _)) (by have := HB.out.lt; omega) hGx (by omega))
                clear hGx hGc hGd hRc hBd hsc hsd HB HG en1
                obtain ⟨we, ewe⟩ : ∃ we : World, we = wd := ⟨_, rfl⟩
                subst ewe
                go_loopw [14] (fun i wq => ∃ c : Nat, c ≤ 4 ∧ i = .int .i64 c ∧ Blk wq n0 53 (upd (rmixAt t) t (4 * c)) ∧ we.grownBy wq (some n0)) (fun i _ => 4 - (intOf i).toNat)
                case atStart => exact ⟨0, by omega, rfl, by rw [Nat.mul_zero, upd_zero _ _ HBL.out]; exact HBd.out, grown_refl _ _⟩
                case round =>
                  obtain ⟨c2, hc, rfl, hB, hG⟩ := hrel
                  by_cases hc4 : c2 < 4
                  · have HC4 := Lib.hid hc4
                    have hcti : decide ((c2 : Int) < 4) = true := by simp; omega
                    have HB := Lib.hid hB
                    have HG := Lib.hid hG
                    have hci2 : (c2 : Int) < 4 := by omega
                    clear hB hG hc
                    go_wp2
                    go_loopw [15] (fun i wq => ∃ q : Nat, q ≤ 4 ∧ i = .int .i64 q ∧ Blk wq n0 53 (upd (rmixAt t) t (4 * c2 + q)) ∧ we.grownBy wq (some n0)) (fun i _ => 4 - (intOf i).toNat)
                    case atStart => exact ⟨0, by omega, rfl, by rw [Nat.add_zero]; exact HB.out, HG.out⟩
                    case round =>
                      clear HB HG
                      obtain ⟨q, hq, rfl, hB, hG⟩ := hrel
                      by_cases hq4 : q < 4
                      · have HQ4 := Lib.hid hq4
                        have hT := HTd.out.old hG (by simp; omega)
                        have d0 := hT.cell (4 * c2 + q) (by rw [HBL.out]; omega)
                        have d1 := hT.cell (4 * c2 + (q + 1) % 4) (by rw [HBL.out]; omega)
                        have d2 := hT.cell (4 * c2 + (q + 2) % 4) (by rw [HBL.out]; omega)
                        have d3 := hT.cell (4 * c2 + (q + 3) % 4) (by rw [HBL.out]; omega)
                        have HAT := Lib.hid (show rmixAt t (4 * c2 + q) = ((gmul 2 (g8 t (4 * c2 + q)) ^^^ gmul 3 (g8 t (4 * c2 + (q + 1) % 4))) ^^^ g8 t (4 * c2 + (q + 2) % 4)) ^^^ g8 t (4 * c2 + (q + 3) % 4) by unfold rmixAt; rw [show (4 * c2 + q) / 4 = c2 by omega, show (4 * c2 + q) % 4 = q by omega])
                        generalize g8 t (4 * c2 + q) = y0 at d0 HAT
                        generalize g8 t (4 * c2 + (q + 1) % 4) = y1 at d1 HAT
                        generalize g8 t (4 * c2 + (q + 2) % 4) = y2 at d2 HAT
                        generalize g8 t (4 * c2 + (q + 3) % 4) = y3 at d3 HAT
                        have d4 := hB.cell (4 * c2 + q) (by rw [upd_len]; omega)
                        have f4 := hB.free (4 * c2 + q)
                        have HSE := Lib.hid (upd_set (rmixAt t) t (4 * c2 + q) (by omega))
                        have s4 : (4 * (c2 : Int) + (q : Int)).toNat = 4 * c2 + q := by omega
                        have s5 : (0 : Int) ≤ 4 * (c2 : Int) + (q : Int) := by omega
                        have s6 : 4 * (c2 : Int) + (q : Int) < 16 := by omega
                        have a1 : (4 * (c2 : Int) + ((q : Int) + 1) % 4).toNat = 4 * c2 + (q + 1) % 4 := by omega
                        have a2 : (0 : Int) ≤ 4 * (c2 : Int) + ((q : Int) + 1) % 4 := by omega
                        have a3 : 4 * (c2 : Int) + ((q : Int) + 1) % 4 < 16 := by omega
                        have b1 : (4 * (c2 : Int) + ((q : Int) + 2) % 4).toNat = 4 * c2 + (q + 2) % 4 := by omega
                        have b2 : (0 : Int) ≤ 4 * (c2 : Int) + ((q : Int) + 2) % 4 := by omega
                        have b3 : 4 * (c2 : Int) + ((q : Int) + 2) % 4 < 16 := by omega
                        have e1 : (4 * (c2 : Int) + ((q : Int) + 3) % 4).toNat = 4 * c2 + (q + 3) % 4 := by omega
                        have e2 : (0 : Int) ≤ 4 * (c2 : Int) + ((q : Int) + 3) % 4 := by omega
                        have e3 : 4 * (c2 : Int) + ((q : Int) + 3) % 4 < 16 := by omega
                        have HB := Lib.hid hB
                        have HG := Lib.hid hG
                        have hqi : (q : Int) < 4 := by omega
                        clear hB hG hT hq
                        go_wp2_with (first
                          | (go_at_call 102; (with_reducible refine (rMul_l2 _ _).mono ?_); rintro e wr ⟨rfl, rfl⟩)
                          | (go_at_call 102; (with_reducible refine (rMul_l3 _ _).mono ?_); rintro e wr ⟨rfl, rfl⟩))
                        go_roundw
                        case rel =>
                          refine ⟨q + 1, HQ4.out, by go_num, ?_, grown_set HG.out _ _⟩
                          rw [show 4 * c2 + (q + 1) = 4 * c2 + q + 1 by omega, ← HSE.out, HAT.out]
                          exact HB.out.set _ _
                        case measure => have := HQ4.out; simp [intOf]; omega
                      · have hq4e : q = 4 := by omega
                        rw [hq4e] at hB
                        have HB := Lib.hid hB
                        have HG := Lib.hid hG
                        have hqi : ¬ ((q : Int) < 4) := by omega
                        clear hB hG hq hq4 hq4e
                        go_wp2
                        go_roundw
                        case rel => exact ⟨c2 + 1, HC4.out, by go_num, by rw [show 4 * (c2 + 1) = 4 * c2 + 4 by omega]; exact HB.out, HG.out⟩
                        case measure => have := HC4.out; simp [intOf]; omega
                  · have hc4e : c2 = 4 := by omega
                    rw [hc4e] at hB
                    have hci2 : ¬ ((c2 : Int) < 4) := by omega
                    have HBf := Lib.hid (show Blk wr n0 53 (pcols [2, 3, 1, 1] t) from by rw [← rmix_eq t t]; exact hB)
                    have HGf := Lib.hid (show Below n0 wo wr from below_new HGd.out (by have := HBd.out.lt; omega) hG (Nat.le_refl _))
                    clear hB hG hc hc4 hc4e HBd HGd HTd HB7
                    obtain ⟨p, ep⟩ : ∃ p, pcols [2, 3, 1, 1] t = p := ⟨_, rfl⟩
                    have HPL := Lib.hid (pcols_len [2, 3, 1, 1] t)
                    rw [ep] at HBf HST HPL
                    clear ep
                    obtain ⟨wf, rfl⟩ : ∃ wf : World, wf = wr := ⟨_, rfl⟩
                    have HBb := Lib.hid (show Blk wf N 53 s from (HBr.out.old HG7.out (by simp)).below HGf.out (by omega))
                    have HRb := Lib.hid (show Row wf (N + 1) 53 16 from (HR.out.old HG7.out (by simp)).below HGf.out (by omega))
                    have HWb := Lib.hid (show Rd wf gw 0 ws from (HW.out.old HG7.out (by simp)).below HGf.out (by omega))
                    have HXb := Lib.hid (show Blk wf gb 176 (bx 255) from (HX.out.old HG7.out (by simp)).below HGf.out (by omega))
                    have HMb := Lib.hid (show Below N w wf from below_more (below_none HM.out (by have := EN0.out; omega) HG7.out) HGf.out (by omega))
                    have HZb := Lib.hid (show n0 < wf.heap.size from HBf.out.lt)
                    clear HG7 HGf HBr HR HW HX HM HZ7
                    go_wp2
                    go_loopw [17] (fun i wq => ∃ k2 : Nat, k2 ≤ 16 ∧ i = .int .i64 k2 ∧ Blk wq N 53 (upd (fun i => g8 p i ^^^ g8 ws (16 * r + i)) s k2) ∧ wf.grownBy wq (some N)) (fun i _ => 16 - (intOf i).toNat)
                    case atStart => exact ⟨0, by omega, rfl, by rw [upd_zero _ _ HSL.out]; exact HBb.out, grown_refl _ _⟩
                    case round =>
                      obtain ⟨k2, hk2, rfl, hB, hG⟩ := hrel
                      by_cases hlt2 : k2 < 16
                      · have c1 := (HBf.out.old hG (by simp; omega)).cell k2 (by rw [HPL.out]; exact hlt2)
                        have c2 := (HWb.out.old hG (by simp; omega)).cell (16 * r + k2) (by rw [HWL.out]; have := HLE.out; omega)
                        rw [Nat.zero_add] at c2
                        have c3 := hB.cell k2 (by rw [upd_len]; exact hlt2)
                        have f1 := hB.free k2
                        have HSE := Lib.hid (upd_set (fun i => g8 p i ^^^ g8 ws (16 * r + i)) s k2 hlt2)
                        generalize g8 p k2 = x1 at c1 HSE
                        generalize g8 ws (16 * r + k2) = x2 at c2 HSE
                        have v1 : 16 * (r : Int) + (k2 : Int) < 16 * ((nr : Int) + 1) := by have := HLE.out; omega
                        have v2 : (0 : Int) ≤ 16 * (r : Int) + (k2 : Int) := by omega
                        have v3 : (16 * (r : Int) + (k2 : Int)).toNat = 16 * r + k2 := by omega
                        have v4 : IntKind.i64.wrap (16 * (r : Int)) = 16 * (r : Int) := IntWalk.i64_in _ (by omega)
                        have v5 : IntKind.i64.wrap (16 * (r : Int) + (k2 : Int)) = 16 * (r : Int) + (k2 : Int) := IntWalk.i64_in _ (by omega)
                        have HBk := Lib.hid hB
                        have HG := Lib.hid hG
                        have HLT2 := Lib.hid hlt2
                        clear hB hG hlt2 hk2
                        have hk2i : (k2 : Int) < 16 := by have := HLT2.out; omega
                        go_wp2
                        go_region
                        go_wp2
                        go_roundw
                        case rel =>
                          refine ⟨k2 + 1, HLT2.out, by go_num, ?_, grown_drew (grown_set HG.out _ _)⟩
                          rw [← HSE.out]
                          exact (HBk.out.set k2 _).drew
                        case measure => have := HLT2.out; simp [intOf]; omega
                      · have hk16 : k2 = 16 := by omega
                        rw [hk16] at hB
                        have hki2 : ¬ ((k2 : Int) < 16) := by omega
                        have HB9 := Lib.hid (show Blk wr N 53 (encTo ws b nr r) from by rw [HST.out, ← rwith_eq p ws s r]; exact hB)
                        have HG := Lib.hid hG
                        clear hB hG hk16 hk2 hlt2
                        go_wp2
                        go_roundw
                        case rel =>
                          have hN0 : N + 2 ≤ gw := hgwN
                          exact ⟨r + 1, by omega, by have := HLE.out; omega, by go_num, HB9.out, HRb.out.old HG.out (by simp), HWb.out.old HG.out (by simp; omega), HXb.out.old HG.out (by simp; omega), below_new HMb.out (by have := HZb.out; omega) HG.out (Nat.le_refl _)⟩
                        case measure => have := HLE.out; simp [intOf]; omega
              · have hrti : decide ((r : Int) < (nr : Int)) = false := by simp; omega
                have hrlt : ¬ ((r : Int) < (nr : Int)) := by omega
                have HST := Lib.hid (show encTo ws b nr r = pwith (prows (pboxes gbox s) 1) ws r by
                  have := HR1.out
                  obtain ⟨r', rfl⟩ : ∃ r', r = r' + 1 := ⟨r - 1, by omega⟩
                  simp only [encTo]
                  rw [if_neg hlt]
                  have := HS.out
                  rw [Nat.add_sub_cancel] at this
                  rw [this])
                have HBf := HB
                have HGf := Lib.hid (show Below n0 wo wr from below_new (Below.refl n0 wo) (by have := HZ7.out; omega) HG.out (Nat.le_refl _))
                clear HB HG HB7 hlt
                obtain ⟨p, ep⟩ : ∃ p, prows (pboxes gbox s) 1 = p := ⟨_, rfl⟩
                have HPL := Lib.hid (prows_len (pboxes gbox s) 1)
                rw [ep] at HBf HST HPL
                clear ep
                obtain ⟨wf, rfl⟩ : ∃ wf : World, wf = wr := ⟨_, rfl⟩
                have HBb := Lib.hid (show Blk wf N 53 s from (HBr.out.old HG7.out (by simp)).below HGf.out (by omega))
                have HRb := Lib.hid (show Row wf (N + 1) 53 16 from (HR.out.old HG7.out (by simp)).below HGf.out (by omega))
                have HWb := Lib.hid (show Rd wf gw 0 ws from (HW.out.old HG7.out (by simp)).below HGf.out (by omega))
                have HXb := Lib.hid (show Blk wf gb 176 (bx 255) from (HX.out.old HG7.out (by simp)).below HGf.out (by omega))
                have HMb := Lib.hid (show Below N w wf from below_more (below_none HM.out (by have := EN0.out; omega) HG7.out) HGf.out (by omega))
                have HZb := Lib.hid (show n0 < wf.heap.size from HBf.out.lt)
                clear HG7 HGf HBr HR HW HX HM HZ7
                go_wp2
                go_loopw [17] (fun i wq => ∃ k2 : Nat, k2 ≤ 16 ∧ i = .int .i64 k2 ∧ Blk wq N 53 (upd (fun i => g8 p i ^^^ g8 ws (16 * r + i)) s k2) ∧ wf.grownBy wq (some N)) (fun i _ => 16 - (intOf i).toNat)
                case atStart => exact ⟨0, by omega, rfl, by rw [upd_zero _ _ HSL.out]; exact HBb.out, grown_refl _ _⟩
                case round =>
                  obtain ⟨k2, hk2, rfl, hB, hG⟩ := hrel
                  by_cases hlt2 : k2 < 16
                  · have c1 := (HBf.out.old hG (by simp; omega)).cell k2 (by rw [HPL.out]; exact hlt2)
                    have c2 := (HWb.out.old hG (by simp; omega)).cell (16 * r + k2) (by rw [HWL.out]; have := HLE.out; omega)
                    rw [Nat.zero_add] at c2
                    have c3 := hB.cell k2 (by rw [upd_len]; exact hlt2)
                    have f1 := hB.free k2
                    have HSE := Lib.hid (upd_set (fun i => g8 p i ^^^ g8 ws (16 * r + i)) s k2 hlt2)
                    generalize g8 p k2 = x1 at c1 HSE
                    generalize g8 ws (16 * r + k2) = x2 at c2 HSE
                    have v1 : 16 * (r : Int) + (k2 : Int) < 16 * ((nr : Int) + 1) := by have := HLE.out; omega
                    have v2 : (0 : Int) ≤ 16 * (r : Int) + (k2 : Int) := by omega
                    have v3 : (16 * (r : Int) + (k2 : Int)).toNat = 16 * r + k2 := by omega
                    have v4 : IntKind.i64.wrap (16 * (r : Int)) = 16 * (r : Int) := IntWalk.i64_in _ (by omega)
                    have v5 : IntKind.i64.wrap (16 * (r : Int) + (k2 : Int)) = 16 * (r : Int) + (k2 : Int) := IntWalk.i64_in _ (by omega)
                    have HBk := Lib.hid hB
                    have HG := Lib.hid hG
                    have HLT2 := Lib.hid hlt2
                    clear hB hG hlt2 hk2
                    have hk2i : (k2 : Int) < 16 := by have := HLT2.out; omega
                    go_wp2
                    go_region
                    go_wp2
                    go_roundw
                    case rel =>
                      refine ⟨k2 + 1, HLT2.out, by go_num, ?_, grown_drew (grown_set HG.out _ _)⟩
                      rw [← HSE.out]
                      exact (HBk.out.set k2 _).drew
                    case measure => have := HLT2.out; simp [intOf]; omega
                  · have hk16 : k2 = 16 := by omega
                    rw [hk16] at hB
                    have hki2 : ¬ ((k2 : Int) < 16) := by omega
                    have HB9 := Lib.hid (show Blk wr N 53 (encTo ws b nr r) from by rw [HST.out, ← rwith_eq p ws s r]; exact hB)
                    have HG := Lib.hid hG
                    clear hB hG hk16 hk2 hlt2
                    go_wp2
                    go_roundw
                    case rel =>
                      have hN0 : N + 2 ≤ gw := hgwN
                      exact ⟨r + 1, by omega, by have := HLE.out; omega, by go_num, HB9.out, HRb.out.old HG.out (by simp), HWb.out.old HG.out (by simp; omega), HXb.out.old HG.out (by simp; omega), below_new HMb.out (by have := HZb.out; omega) HG.out (Nat.le_refl _)⟩
                    case measure => have := HLE.out; simp [intOf]; omega
        · have hrn : r = nr + 1 := by omega
          have hti : ¬ ((r : Int) ≤ (nr : Int)) := by omega
          have hfin : pEnc key b = s := by
            have h1 := HS.out
            rw [hrn, Nat.add_sub_cancel] at h1
            unfold pEnc
            rw [HWS.out, HNR.out, h1]
          have HF := Lib.hid hfin
          clear hrn hfin hr1 hr2 hle
          go_wp2_with (first
            | ((with_reducible show wpList _ _ _ _ _ wr); refine load_blk (w := wr) rfl 53 _ rfl N 53 16 5 s (by rfl) HBr.out HSL.out (by kernel_rfl) (by kernel_rfl) ?_)
            | ((with_reducible show wpList _ _ _ _ _ wr); refine store_blk (w := wr) rfl 53 _ _ rfl (N + 1) 53 16 s (by rfl) (by rfl) HR.out HSL.out (by kernel_rfl) ?_; intro w9 hB9 hG9 hs9))
          refine bodyPost_ret (results_blk1 rfl _ _ (N + 1) 53 16 5 s rfl hB9 HSL.out (by kernel_rfl) (by kernel_rfl)) rfl ⟨?_, ?_⟩
          · rw [HF.out]
          · rw [HN.out]; exact below_new HM.out (by have := EN0.out; omega) hG9 (by omega)
end Go.Proofs.YtbbfjlnkhenbiaaGreatDoor
