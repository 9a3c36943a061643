/- The reference of layer 15: natural PINs and offsets. -/
import Derived.Test.YtbbfjlnkhenbiaaGreatDoorKO1
import Derived.Test.YtbbfjlnkhenbiaaGreatDoorKO0
import Derived.Test.YtbbfjlnkhenbiaaGreatDoorKR8
set_option linter.unusedVariables false
set_option linter.unusedSimpArgs false
namespace Go.Proofs.YtbbfjlnkhenbiaaGreatDoor
open Go Go.RowKit Lk
theorem First_16 (s : ByteArray) (w : World) (hs : s.size ≤ 1000) : Calls Tryz.prog 42 #[.string s, .int .i64 16] w fun e w' => e = .returned (.int .i64 (pf 16 (sb s))) ∧ w' = w := First_any s 16 w hs
theorem First_10 (s : ByteArray) (w : World) (hs : s.size ≤ 1000) : Calls Tryz.prog 42 #[.string s, .int .i64 10] w fun e w' => e = .returned (.int .i64 (pf 10 (sb s))) ∧ w' = w := First_any s 10 w hs
/-- three answers -/
def r3 (x : ByteArray × Int × Int) : Value := .tuple #[.string x.1, .int .i64 x.2.1, .int .i64 x.2.2]
set_option maxHeartbeats 1600000 in
set_option maxRecDepth 100000 in
theorem rNatural_n (vk : Value) (key : List UInt8) (data table : ByteArray) (n : Int) (w : World) (hk : SlB w vk key) (hn : n < 4 ∨ 12 < n) :
    Calls Tryz.prog 36 #[vk, .string data, .string table, .int .i64 n] w fun e w' => e = .returned (r3 (ByteArray.empty, 1, -1)) ∧ w' = w := by
  obtain ⟨A, c, rfl, _⟩ := hk
  obtain ⟨L, eL⟩ : ∃ L, key.length = L := ⟨_, rfl⟩
  rw [eL]
  clear eL
  by_cases h4 : n < 4
  · clear hn
    go_enter Tryz.func36, Tryz.ntmps36
    go_wp2
    go_ret3
    exact ⟨rfl, rfl⟩
  · have h12 : n > 12 := by omega
    clear hn
    go_enter Tryz.func36, Tryz.ntmps36
    go_wp2
    go_ret3
    exact ⟨rfl, rfl⟩
set_option maxHeartbeats 1600000 in
set_option maxRecDepth 100000 in
theorem rNatural_size (vk : Value) (key : List UInt8) (data table : ByteArray) (n : Int) (w : World) (hk : SlB w vk key) (h4 : ¬ n < 4) (h12 : ¬ 12 < n) (hs : (key.length ≠ 16 ∧ key.length ≠ 24) ∨ data.size ≠ 16) :
    Calls Tryz.prog 36 #[vk, .string data, .string table, .int .i64 n] w fun e w' => e = .returned (r3 (ByteArray.empty, 2, -1)) ∧ w' = w := by
  obtain ⟨A, c, rfl, _⟩ := hk
  obtain ⟨L, eL⟩ : ∃ L, key.length = L := ⟨_, rfl⟩
  rw [eL] at hs ⊢
  clear eL
  have h12' : ¬ n > 12 := by omega
  by_cases h16 : L = 16
  · subst h16
    have hd : ((data.size : Int) != 16) = true := by simp; omega
    clear hs
    go_enter Tryz.func36, Tryz.ntmps36
    go_wp2
    go_ret3
    exact ⟨rfl, rfl⟩
  by_cases h24 : L = 24
  · subst h24
    have hd : ((data.size : Int) != 16) = true := by simp; omega
    clear hs
    go_enter Tryz.func36, Tryz.ntmps36
    go_wp2
    go_ret3
    exact ⟨rfl, rfl⟩
  have i1 : ((L : Int) != 16) = true := by simp; omega
  have i2 : ((L : Int) != 24) = true := by simp; omega
  clear hs h16 h24
  go_enter Tryz.func36, Tryz.ntmps36
  go_wp2
  go_ret3
  exact ⟨rfl, rfl⟩
set_option maxHeartbeats 1600000 in
set_option maxRecDepth 100000 in
theorem rNatural_data (vk : Value) (key : List UInt8) (data table : ByteArray) (n : Int) (k : Nat) (w : World) (hk : SlB w vk key) (h4 : ¬ n < 4) (h12 : ¬ 12 < n) (hL : key.length = 16 ∨ key.length = 24) (hs : data.size = 16) (hp : pf 16 (sb data) = (k : Int)) :
    Calls Tryz.prog 36 #[vk, .string data, .string table, .int .i64 n] w fun e w' => e = .returned (r3 (ByteArray.empty, 16, (k : Int))) ∧ w' = w := by
  obtain ⟨A, c, rfl, _⟩ := hk
  have HF := Lib.hid (First_16 data w (by omega))
  rw [hp] at HF
  have hd : ((data.size : Int) != 16) = false := by rw [hs]; rfl
  have h12' : ¬ n > 12 := by omega
  have hk0 : (k : Int) ≥ 0 := by omega
  clear hs hp
  rcases hL with hL | hL
  all_goals
    rw [hL]
    clear hL
    go_enter Tryz.func36, Tryz.ntmps36
    go_wp2_with (go_at_call 42; refine HF.out.mono ?_; rintro e w ⟨rfl, rfl⟩)
    go_ret3
    exact ⟨rfl, rfl⟩
set_option maxHeartbeats 1600000 in
set_option maxRecDepth 100000 in
theorem rNatural_tsize (vk : Value) (key : List UInt8) (data table : ByteArray) (n : Int) (w : World) (hk : SlB w vk key) (h4 : ¬ n < 4) (h12 : ¬ 12 < n) (hL : key.length = 16 ∨ key.length = 24) (hs : data.size = 16) (hp : pf 16 (sb data) = -1) (ht : table.size ≠ 16) :
    Calls Tryz.prog 36 #[vk, .string data, .string table, .int .i64 n] w fun e w' => e = .returned (r3 (ByteArray.empty, 2, -1)) ∧ w' = w := by
  obtain ⟨A, c, rfl, _⟩ := hk
  have HF := Lib.hid (First_16 data w (by omega))
  rw [hp] at HF
  have hd : ((data.size : Int) != 16) = false := by rw [hs]; rfl
  have ht1 : ((table.size : Int) != 16) = true := by simp; omega
  have h12' : ¬ n > 12 := by omega
  clear hs hp ht
  rcases hL with hL | hL
  all_goals
    rw [hL]
    clear hL
    go_enter Tryz.func36, Tryz.ntmps36
    go_wp2_with (go_at_call 42; refine HF.out.mono ?_; rintro e w ⟨rfl, rfl⟩)
    go_ret3
    exact ⟨rfl, rfl⟩
set_option maxHeartbeats 1600000 in
set_option maxRecDepth 100000 in
theorem rNatural_tbad (vk : Value) (key : List UInt8) (data table : ByteArray) (n : Int) (k : Nat) (w : World) (hk : SlB w vk key) (h4 : ¬ n < 4) (h12 : ¬ 12 < n) (hL : key.length = 16 ∨ key.length = 24) (hs : data.size = 16) (hp : pf 16 (sb data) = -1) (ht : table.size = 16) (hq : pf 10 (sb table) = (k : Int)) (hk16 : k < 16) :
    Calls Tryz.prog 36 #[vk, .string data, .string table, .int .i64 n] w fun e w' => e = .returned (r3 (ByteArray.empty, 16, 16 + (k : Int))) ∧ w' = w := by
  obtain ⟨A, c, rfl, _⟩ := hk
  have HF := Lib.hid (fun w => First_16 data w (by omega))
  have HG := Lib.hid (fun w => First_10 table w (by omega))
  rw [hp] at HF
  rw [hq] at HG
  have hd : ((data.size : Int) != 16) = false := by rw [hs]; rfl
  have ht1 : ((table.size : Int) != 16) = false := by rw [ht]; rfl
  have h12' : ¬ n > 12 := by omega
  have hk0 : (k : Int) ≥ 0 := by omega
  have HW1 := Lib.hid (show wrap64 (16 + (k : Int)) = 16 + (k : Int) from by unfold wrap64; omega)
  clear hs hp ht hq hk16
  rcases hL with hL | hL
  all_goals
    rw [hL]
    clear hL
    go_enter Tryz.func36, Tryz.ntmps36
    go_wp2_with (first
      | (go_at_call 42; with_reducible refine (HF.out _).mono ?_; rintro e w ⟨rfl, rfl⟩)
      | (go_at_call 42; with_reducible refine (HG.out _).mono ?_; rintro e w ⟨rfl, rfl⟩))
    go_ret3
    exact ⟨by rw [HW1.out]; rfl, rfl⟩
theorem takeTo_snoc (l : List UInt8) (k : Nat) (h : k < l.length) : l.take (k + 1) = l.take k ++ [g8 l k] := by rw [List.take_add_one]; simp [g8, h]
theorem ptriple_len8 (key b : List UInt8) (back : Bool) : (ptriple key b back).length = 8 := ptriple_len key b back
set_option maxHeartbeats 3200000 in
set_option maxRecDepth 100000 in
theorem rNatural_ok (vk : Value) (key : List UInt8) (data table : ByteArray) (m : Nat) (w : World) (hk : SlB w vk key) (h4 : 4 ≤ m) (h12 : m ≤ 12) (hL : key.length = 16 ∨ key.length = 24) (hs : data.size = 16) (hp : pf 16 (sb data) = -1) (ht : table.size = 16) (hq : pf 10 (sb table) = -1) :
    Calls Tryz.prog 36 #[vk, .string data, .string table, .int .i64 m] w fun e w' => e = .returned (r3 (ofL (pnatL key data table m), 0, -1)) ∧ Below w.heap.size w w' := by
  obtain ⟨N, hN⟩ : ∃ N, w.heap.size = N := ⟨_, rfl⟩
  have HN := Lib.hid hN
  have HF := Lib.hid (fun w => First_16 data w (by omega))
  have HG := Lib.hid (fun w => First_10 table w (by omega))
  rw [hp] at HF
  rw [hq] at HG
  have HU := Lib.hid (fun w => rUnhex_any data 8 w (by omega) (by omega) hp)
  have HTr := Lib.hid (fun (v : Value) (w1 : World) (h : Below w.heap.size w w1) (hv : SlB w1 v (unTo (sb data) 8)) => rTriple_any false vk v key (unTo (sb data) 8) w1 (hk.below h) hL hv (unTo_len _ _))
  obtain ⟨X, eX⟩ : ∃ X, ptriple key (unTo (sb data) 8) false = X := ⟨_, rfl⟩
  have hXl : X.length = 8 := by rw [← eX]; exact ptriple_len _ _ _
  have hpn : pnatL key data table m = (pthr (phex X) (sb table)).take m := by unfold pnatL; rw [show pdo 2 key (unTo (sb data) 8) false = X from eX]
  rw [eX] at HTr
  have HH := Lib.hid (fun (v : Value) (w1 : World) (hv : SlB w1 v X) => rHex_any v X w1 hv (by omega))
  have HXL := Lib.hid hXl
  have HPN := Lib.hid hpn
  obtain ⟨S, eS⟩ : ∃ S, ofL (phex X) = S := ⟨_, rfl⟩
  have hSz : S.size = 16 := by rw [← eS, ofL_size, phex_len, hXl]
  have hsS : sb S = phex X := by rw [← eS, sb_ofL]
  rw [eS] at HH
  have HSD := Lib.hid (show ∀ k, k < 16 → dv (g8 (sb S) k) < 16 from fun k hk => by
    rw [hsS]
    have hk' : k < (phex X).length := by rw [phex_len]; omega
    exact phex_dig X _ (by unfold g8; simp [hk']))
  have HSS := Lib.hid hsS
  have HSz := Lib.hid hSz
  have HTs := Lib.hid ht
  obtain ⟨A, c, rfl, _⟩ := hk
  have hd : ((data.size : Int) != 16) = false := by rw [hs]; rfl
  have ht1 : ((table.size : Int) != 16) = false := by rw [ht]; rfl
  have h4' : ¬ (m : Int) < 4 := by omega
  have h12' : ¬ (m : Int) > 12 := by omega
  have HM12 := Lib.hid h12
  clear hs hp ht hq h4 h12 eX hXl eS hSz hsS hN hpn
  rcases hL with hL | hL
  all_goals
    rw [hL] at HTr ⊢
    clear hL
    go_enter Tryz.func36, Tryz.ntmps36
    go_wp2_with (first
      | (go_at_call 42; with_reducible refine (HF.out _).mono ?_; rintro e w ⟨rfl, rfl⟩)
      | (go_at_call 42; with_reducible refine (HG.out _).mono ?_; rintro e w ⟨rfl, rfl⟩)
      | (go_at_call 67; refine (HU.out _).mono ?_; rintro e w1 ⟨v1, rfl, hO1, hL1⟩; have HS1 := Lib.hid hO1.slB)
      | (go_at_call 66; refine (HTr.out _ w1 hL1 HS1.out).mono ?_; rintro e w2 ⟨v2, rfl, hO2, hL2⟩; have hM2 := below_more hL1 hL2 hL1.size; have HS2 := Lib.hid hO2.slB)
      | (go_at_call 65; refine (HH.out _ w2 HS2.out).mono ?_; rintro e w3 ⟨rfl, hL3⟩; have hM3 := below_more hM2 hL3 hM2.size))
    have HM3 := Lib.hid hM3
    clear hL1 hO1 hL2 hO2 hL3 hM2 hM3
    go_loopw [12, 13] (fun o i wr => ∃ k : Nat, k ≤ m ∧ i = .int .i64 k ∧ o = .string (ofL ((pthr (phex X) (sb table)).take k)) ∧ wr = w3) (fun _ i _ => m - (intOf i).toNat)
    case atStart => exact ⟨0, by omega, rfl, rfl, rfl⟩
    case round =>
      obtain ⟨k, hk, rfl, rfl, rfl⟩ := hrel
      by_cases hlt : k < m
      · have hik : (k : Int) < (m : Int) := by omega
        have HLT := Lib.hid hlt
        have hm12 := HM12.out
        have hk16 : k < S.size := by have := HSz.out; omega
        have hk16i : (k : Int) < (S.size : Int) := by omega
        obtain ⟨d, ed⟩ : ∃ d, dv (g8 (sb S) k) = d := ⟨_, rfl⟩
        have hd16 : d < 16 := by rw [← ed]; exact HSD.out k (by have := HSz.out; omega)
        have HV := Lib.hid (fun wq => (show Calls Tryz.prog 68 #[.int .u8 (((S[k]'hk16).toNat : Nat) : Int)] wq fun e w' => e = .returned (.int .i64 d) ∧ w' = wq from by rw [sget_bv S k hk16, ← ed]; exact Value_any _ _))
        have hw1 : wrap64 ((d : Int) + 1) = (d : Int) + 1 := by unfold wrap64; omega
        have hdt : d + 1 ≤ table.size := by have := HTs.out; omega
        have hdti : (d : Int) + 1 ≤ (table.size : Int) := by omega
        obtain ⟨P, eP⟩ : ∃ P, (pthr (phex X) (sb table)).take k = P := ⟨_, rfl⟩
        have HPL := Lib.hid (show P.length ≤ 3000 from by rw [← eP, List.length_take]; omega)
        have hkX : k < (phex X).length := by rw [phex_len, HXL.out]; omega
        have HSN := Lib.hid (show (pthr (phex X) (sb table)).take (k + 1) = P ++ [g8 (sb table) d] from by
          rw [takeTo_snoc _ _ (by rw [pthr_len]; exact hkX), eP]
          congr 2
          unfold pthr
          rw [← ed, HSS.out]
          unfold g8
          simp [hkX])
        have HTX := Lib.hid (show table.extract d (d + 1) = ofL [g8 (sb table) d] from by
          apply sb_inj
          rw [sb_extract, sb_ofL, show d + 1 - d = 1 by omega]
          have hdl : d < (sb table).length := by rw [sb_len]; omega
          rw [List.drop_eq_getElem_cons hdl, List.take_succ_cons, List.take_zero]
          unfold g8
          simp [hdl])
        rw [eP]
        clear ed eP hm12 hkX hlt
        go_wp2_with (first
          | (go_at_call 68; refine (HV.out _).mono ?_; rintro e w5 ⟨rfl, rfl⟩)
          | (rw [HTX.out]; (with_reducible show wpList _ _ _ _ _ w5); refine op_sadd (w := w5) rfl _ _ _ _ rfl P [g8 (sb table) d] (by rfl) (by rfl) (by have := HPL.out; simp; omega) ?_))
        refine ⟨⟨k + 1, HLT.out, by rw [Int.natCast_add]; rfl, by rw [HSN.out], by first | rfl | trivial⟩, ?_⟩
        have := HLT.out
        show m - ((k : Int) + 1).toNat < m - ((k : Int)).toNat
        omega
      · have hik : ¬ (k : Int) < (m : Int) := by omega
        have HE := Lib.hid (show ofL ((pthr (phex X) (sb table)).take k) = ofL (pnatL key data table m) from by rw [HPN.out, show k = m by omega])
        clear hlt
        go_wp2
        go_ret3
        exact ⟨by rw [← HE.out]; rfl, HM3.out⟩
theorem rNatural_any (vk : Value) (key : List UInt8) (data table : ByteArray) (n : Int) (w : World) (hk : SlB w vk key) :
    Calls Tryz.prog 36 #[vk, .string data, .string table, .int .i64 n] w fun e w' => e = .returned (r3 (pnat key data table n)) ∧ Below w.heap.size w w' := by
  unfold pnat
  by_cases h1 : n < 4 ∨ 12 < n
  · rw [if_pos h1]
    exact (rNatural_n vk key data table n w hk h1).mono fun e w' h => ⟨h.1, by rw [h.2]; exact Below.refl _ _⟩
  rw [if_neg h1]
  have h4 : ¬ n < 4 := fun h => h1 (.inl h)
  have h12 : ¬ 12 < n := fun h => h1 (.inr h)
  by_cases h2 : (key.length ≠ 16 ∧ key.length ≠ 24) ∨ data.size ≠ 16
  · rw [if_pos h2]
    exact (rNatural_size vk key data table n w hk h4 h12 h2).mono fun e w' h => ⟨h.1, by rw [h.2]; exact Below.refl _ _⟩
  rw [if_neg h2]
  have hL : key.length = 16 ∨ key.length = 24 := by omega
  have hs : data.size = 16 := by omega
  rcases pf_cases 16 (sb data) with ⟨h3, _⟩ | ⟨k, h3, hk3, _⟩
  · rw [h3, if_neg (by omega)]
    by_cases ht : table.size ≠ 16
    · rw [if_pos ht]
      exact (rNatural_tsize vk key data table n w hk h4 h12 hL hs h3 ht).mono fun e w' h => ⟨h.1, by rw [h.2]; exact Below.refl _ _⟩
    rw [if_neg ht]
    rcases pf_cases 10 (sb table) with ⟨h5, _⟩ | ⟨k, h5, hk5, _⟩
    · rw [h5, if_neg (by omega)]
      obtain ⟨m, rfl⟩ : ∃ m : Nat, n = (m : Int) := ⟨n.toNat, by omega⟩
      exact rNatural_ok vk key data table m w hk (by omega) (by omega) hL hs h3 (by omega) h5
    · rw [h5, if_pos (by omega)]
      exact (rNatural_tbad vk key data table n k w hk h4 h12 hL hs h3 (by omega) h5 (by rw [sb_len] at hk5; omega)).mono fun e w' h => ⟨h.1, by rw [h.2]; exact Below.refl _ _⟩
  · rw [h3, if_pos (by omega)]
    exact (rNatural_data vk key data table n k w hk h4 h12 hL hs h3).mono fun e w' h => ⟨h.1, by rw [h.2]; exact Below.refl _ _⟩
theorem Wrong_4 (s : ByteArray) (w : World) (hs : s.size ≤ 1000) : Calls Tryz.prog 38 #[.string s, .int .i64 4, .int .i64 12] w fun e w' => e = .returned (.tuple #[.int .i64 (pwrong (sb s) 4 12).1, .int .i64 (pwrong (sb s) 4 12).2]) ∧ w' = w := Wrong_any s 4 12 w hs
theorem Wrong_13 (s : ByteArray) (w : World) (hs : s.size ≤ 1000) : Calls Tryz.prog 38 #[.string s, .int .i64 13, .int .i64 19] w fun e w' => e = .returned (.tuple #[.int .i64 (pwrong (sb s) 13 19).1, .int .i64 (pwrong (sb s) 13 19).2]) ∧ w' = w := Wrong_any s 13 19 w hs
set_option maxHeartbeats 1600000 in
set_option maxRecDepth 100000 in
theorem rOf_any (vk : Value) (key : List UInt8) (data table p : ByteArray) (w : World) (hk : SlB w vk key) (hp : p.size ≤ 1000) :
    Calls Tryz.prog 40 #[vk, .string data, .string table, .string p] w fun e w' => e = .returned (r3 (pof key data table p)) ∧ Below w.heap.size w w' := by
  have HW := Lib.hid (Wrong_4 p w hp)
  have HA := Lib.hid (rNatural_any vk key data table p.size w hk)
  obtain ⟨A, c, rfl, _⟩ := hk
  unfold pof
  by_cases h1 : (pwrong (sb p) 4 12).1 ≠ 0
  · rw [if_pos h1]
    obtain ⟨pr, epr⟩ : ∃ pr, pwrong (sb p) 4 12 = pr := ⟨_, rfl⟩
    rw [epr] at HW h1 ⊢
    have i1 : (pr.1 != 0) = true := by simp; exact h1
    clear h1 epr hp
    go_enter Tryz.func40, Tryz.ntmps40
    go_wp2_with (go_at_call 38; refine HW.out.mono ?_; rintro e w ⟨rfl, rfl⟩)
    go_ret3
    exact ⟨rfl, Below.refl _ _⟩
  rw [if_neg h1]
  have hw := pwrong_ok (l := sb p) (a := 4) (b := 12) (by simpa using h1)
  rw [hw.2.2.2] at HW
  by_cases h2 : (pnat key data table p.size).2.1 ≠ 0
  · rw [if_pos h2]
    obtain ⟨pn, epn⟩ : ∃ pn, pnat key data table p.size = pn := ⟨_, rfl⟩
    rw [epn] at HA h2 ⊢
    have i1 : (pn.2.1 != 0) = true := by simp; exact h2
    clear h1 h2 hw epn hp
    go_enter Tryz.func40, Tryz.ntmps40
    go_wp2_with (first
      | (go_at_call 38; refine HW.out.mono ?_; rintro e w ⟨rfl, rfl⟩)
      | (go_at_call 36; refine HA.out.mono ?_; rintro e w1 ⟨rfl, hL⟩; unfold r3))
    go_ret3
    exact ⟨rfl, hL⟩
  rw [if_neg h2]
  obtain ⟨m, hm1, hm2, hm3, _, _, _, ht1, ht2, hpn⟩ := pnat_ok key data table p.size (by simpa using h2)
  rw [sb_len] at hw
  have HM := Lib.hid (fun w1 => rMod_any p (ofL (pnatL key data table m)) true w1 hp (by rw [ofL_size, pnatL_len _ _ _ _ hm3]; omega) hw.2.2.1 (by rw [sb_ofL]; exact pnatL_dig _ _ _ _ ht1 ht2))
  rw [hpn] at HA ⊢
  clear h1 h2 hpn hm1 hm2 hm3 ht1 ht2 hw hp
  go_enter Tryz.func40, Tryz.ntmps40
  go_wp2_with (first
    | (go_at_call 38; refine HW.out.mono ?_; rintro e w ⟨rfl, rfl⟩)
    | (go_at_call 36; refine HA.out.mono ?_; rintro e w1 ⟨rfl, hL⟩; unfold r3)
    | (go_at_call 72; refine (HM.out w1).mono ?_; rintro e w2 ⟨rfl, hL2⟩))
  go_ret3
  exact ⟨rfl, below_more hL hL2 hL.size⟩
end Go.Proofs.YtbbfjlnkhenbiaaGreatDoor
