/- OffsetBack, of whatever key, account, offset and other PIN: the natural PIN and an offset, summed up, is right, and each other PIN of that length isn't. No condition. -/
import Derived.Test.YtbbfjlnkhenbiaaDoorKO0
import Derived.Test.YtbbfjlnkhenbiaaDoorKO1
import Derived.Test.YtbbfjlnkhenbiaaDoorKG0
import Derived.Test.YtbbfjlnkhenbiaaDoorKB0
import Derived.WalkKit
import Derived.ProofKit
import Derived.OpenShut
import Derived.ShutString
import Derived.ChangeOld
import Derived.SizedLaws
import Derived.ChangeSlices
import Derived.Test.YtbbfjlnkhenbiaaDoorRows
import Derived.Test.YtbbfjlnkhenbiaaDoorKB6
import Derived.ChangeSame
import Derived.ChangeVars
import Derived.JoinedOf
import Derived.RowKit
import Derived.RowKitTokens
import Derived.LaidLaws
import Derived.LaidHandle
import Derived.Stop.Joined
import Derived.SevenTiedAt
import Derived.Test.YtbbfjlnkhenbiaaDoorCards
import Derived.Test.YtbbfjlnkhenbiaaDoorTie
set_option linter.unusedVariables false
set_option linter.unusedSimpArgs false
namespace Lk
open Go Go.RowKit
theorem padd_back (a b : UInt8) (ha : dv a < 10) (hb : dv b < 10) : padd (padd b a false) b true = a := by
  have key : ∀ x y : Fin 10, (((y.val + x.val) % 10) + (10 - y.val)) % 10 = x.val := by decide
  unfold padd
  simp only [if_true, Bool.false_eq_true, if_false]
  rw [dv_hx _ (by omega), key ⟨dv a, ha⟩ ⟨dv b, hb⟩]
  exact hx_dv a (by omega)
theorem padd_forth (a b : UInt8) (ha : dv a < 10) (hb : dv b < 10) : padd b (padd a b true) false = a := by
  have key : ∀ x y : Fin 10, (y.val + ((x.val + (10 - y.val)) % 10)) % 10 = x.val := by decide
  unfold padd
  simp only [if_true, Bool.false_eq_true, if_false]
  rw [dv_hx _ (by omega), key ⟨dv a, ha⟩ ⟨dv b, hb⟩]
  exact hx_dv a (by omega)
theorem pmod_back (n o : List UInt8) (hl : n.length = o.length) (hn : pf 10 n = -1) (ho : pf 10 o = -1) : pmod (pmod n o false) n true = o := by
  have dn := (pf_neg (show pf 10 n < 0 by omega)).2
  have dx := (pf_neg (show pf 10 o < 0 by omega)).2
  refine same_ext (by rw [pmod_len, pmod_len, hl]) fun i hi => ?_
  rw [pmod_len, pmod_len] at hi
  rw [pmod_get _ _ _ _ (by rw [pmod_len]; exact hi), pmod_get _ _ _ _ hi]
  exact padd_back _ _ (dx i (by omega)) (dn i hi)
theorem pmod_forth (n p : List UInt8) (hl : n.length = p.length) (hn : pf 10 n = -1) (hp : pf 10 p = -1) : pmod n (pmod p n true) false = p := by
  have dn := (pf_neg (show pf 10 n < 0 by omega)).2
  have dp := (pf_neg (show pf 10 p < 0 by omega)).2
  refine same_ext (by rw [pmod_len, hl]) fun i hi => ?_
  rw [pmod_len] at hi
  rw [pmod_get _ _ _ _ hi, pmod_get _ _ _ _ (by omega)]
  exact padd_forth _ _ (dp i (by omega)) (dn i hi)
end Lk
namespace Go.Proofs.YtbbfjlnkhenbiaaDoor
open Go Go.RowKit Lk
theorem pdat_size (pan : ByteArray) (h : pwrong (sb pan) 13 19 = (0, -1)) : (pdat pan).size = 16 := by
  have hw := pwrong_ok (l := sb pan) (a := 13) (b := 19) (by rw [h])
  rw [sb_len] at hw
  unfold pdat
  rw [ByteArray.size_append, ByteArray.size_extract]
  show min (pan.size - 1) pan.size - (pan.size - 13) + 4 = 16
  omega
theorem pdat_dig (pan : ByteArray) (h : pwrong (sb pan) 13 19 = (0, -1)) : pf 16 (sb (pdat pan)) = -1 := by
  have hw := pwrong_ok (l := sb pan) (a := 13) (b := 19) (by rw [h])
  have hd := all_of_pf (show pf 10 (sb pan) < 0 by omega)
  refine pf_of_all fun c hc => ?_
  have e : sb (pdat pan) = sb (pan.extract (pan.size - 13) (pan.size - 1)) ++ [70, 70, 70, 70] := by
    unfold pdat sb
    rw [ByteArray.data_append, Array.toList_append]
  rw [e, List.mem_append] at hc
  rcases hc with hc | hc
  · rw [sb_extract] at hc
    have := hd c (List.mem_of_mem_drop (List.mem_of_mem_take hc))
    omega
  · have h4 : c = 70 := by simpa using hc
    subst h4
    decide
theorem tab_ok : TAB.size = 16 ∧ pf 10 (sb TAB) = -1 := ⟨rfl, by decide +kernel⟩
end Go.Proofs.YtbbfjlnkhenbiaaDoor
set_option linter.unusedVariables false
set_option linter.unusedSimpArgs false
namespace Go.Proofs.YtbbfjlnkhenbiaaDoor
open Go Go.RowKit Lk
set_option maxRecDepth 100000 in
theorem Wrong_more (s : ByteArray) (least most : Nat) (w : World) (h1 : ¬ s.size < least) (h2 : most < s.size) : Calls Tryd.prog 21 #[.string s, .int .i64 least, .int .i64 most] w fun e w' => e = .returned (.tuple #[.int .i64 2, .int .i64 (-1)]) ∧ w' = w := by
  have i1 : ¬ (s.size : Int) < (least : Int) := by omega
  have i2 : (s.size : Int) > (most : Int) := by omega
  clear h1 h2
  go_enter Tryd.func21, Tryd.ntmps21
  go_wp2
  go_ret2
  exact ⟨rfl, rfl⟩
theorem Wrong_all (s : ByteArray) (least most : Nat) (w : World) (hm : most ≤ 1000) (hlm : least ≤ most) : Calls Tryd.prog 21 #[.string s, .int .i64 least, .int .i64 most] w fun e w' => e = .returned (.tuple #[.int .i64 (pwrong (sb s) least most).1, .int .i64 (pwrong (sb s) least most).2]) ∧ w' = w := by
  by_cases h : most < s.size
  · have e : pwrong (sb s) least most = (2, -1) := by unfold pwrong; rw [sb_len, if_pos (.inr h)]
    rw [e]
    exact Wrong_more s least most w (by omega) h
  · exact Wrong_any s least most w (by omega)
theorem Wrong4 (s : ByteArray) (w : World) : Calls Tryd.prog 21 #[.string s, .int .i64 4, .int .i64 12] w fun e w' => e = .returned (.tuple #[.int .i64 (pwrong (sb s) 4 12).1, .int .i64 (pwrong (sb s) 4 12).2]) ∧ w' = w := Wrong_all s 4 12 w (by decide) (by decide)
theorem Wrong13 (s : ByteArray) (w : World) : Calls Tryd.prog 21 #[.string s, .int .i64 13, .int .i64 19] w fun e w' => e = .returned (.tuple #[.int .i64 (pwrong (sb s) 13 19).1, .int .i64 (pwrong (sb s) 13 19).2]) ∧ w' = w := Wrong_all s 13 19 w (by decide) (by decide)
theorem First10 (s : ByteArray) (w : World) (hs : s.size ≤ 1000) : Calls Tryd.prog 27 #[.string s, .int .i64 10] w fun e w' => e = .returned (.int .i64 (pf 10 (sb s))) ∧ w' = w := First_any s 10 w hs
end Go.Proofs.YtbbfjlnkhenbiaaDoor
set_option linter.unusedVariables false
set_option linter.unusedSimpArgs false
namespace Go.Proofs.YtbbfjlnkhenbiaaDoor
open Go Go.RowKit Lk
set_option maxHeartbeats 1600000 in
set_option maxRecDepth 100000 in
theorem OB_pan (k : List UInt8) (pan off other : ByteArray) (w : World) (hk : k.length = 16) (hw : (pwrong (sb pan) 13 19).1 ≠ 0) :
    Calls Tryd.prog 9 #[.agg (Bs k), .string pan, .string off, .string other] w fun e w' => e = .returned (.bool true) ∧ Below w.heap.size w w' := by
  have HA := Lib.hid (fun w => awake15_any w)
  have HWr := Lib.hid (fun w => Wrong13 pan w)
  have HWo := Lib.hid (fun w => Wrong4 off w)
  obtain ⟨pw, epw⟩ : ∃ pw, pwrong (sb pan) 13 19 = pw := ⟨_, rfl⟩
  rw [epw] at hw HWr
  obtain ⟨p1, p2⟩ := pw
  obtain ⟨po, epo⟩ : ∃ po, pwrong (sb off) 4 12 = po := ⟨_, rfl⟩
  rw [epo] at HWo
  obtain ⟨o1, o2⟩ := po
  simp only at hw HWr HWo
  have i1 : (p1 != 0) = true := by simp; exact hw
  clear hw epw epo
  go_enter Tryd.func9, Tryd.ntmps9
  go_wp2_with (first
    | ((with_reducible show wpList _ _ _ _ _ w); refine box_blk (w := w) rfl 41 _ rfl k rfl ?_; intro w0 hK0 hG0 hz0; have hM0 : Below w.heap.size w w0 := below_none (Below.refl _ _) (Nat.le_refl _) hG0)
    | (go_at_call 21; with_reducible refine (HWr.out w0).mono ?_; rintro e wq ⟨rfl, hq⟩; have hq1 := hq.symm; subst hq1)
    | (go_at_call 21; with_reducible refine (HWo.out w0).mono ?_; rintro e wq ⟨rfl, hq⟩; have hq1 := hq.symm; subst hq1)
    | (go_at_call 22; (with_reducible show Calls _ _ _ w0 _); refine (HA.out w0).mono ?_; rintro e w1 ⟨rfl, hL1⟩; have hM1 := below_more hM0 hL1 hM0.size)
    | (go_at_call 22; (with_reducible show Calls _ _ _ w1 _); refine (HA.out w1).mono ?_; rintro e w2 ⟨rfl, hL2⟩; have hM2 := below_more hM1 hL2 hM1.size))
  go_ret
  exact ⟨rfl, hM2⟩
set_option maxHeartbeats 1600000 in
set_option maxRecDepth 100000 in
theorem OB_off (k : List UInt8) (pan off other : ByteArray) (w : World) (hk : k.length = 16) (hw : (pwrong (sb pan) 13 19).1 = 0) (ho : (pwrong (sb off) 4 12).1 ≠ 0) :
    Calls Tryd.prog 9 #[.agg (Bs k), .string pan, .string off, .string other] w fun e w' => e = .returned (.bool true) ∧ Below w.heap.size w w' := by
  have HA := Lib.hid (fun w => awake15_any w)
  have HWr := Lib.hid (fun w => Wrong13 pan w)
  have HWo := Lib.hid (fun w => Wrong4 off w)
  rw [hw] at HWr
  obtain ⟨p2, ep2⟩ : ∃ p2, (pwrong (sb pan) 13 19).2 = p2 := ⟨_, rfl⟩
  rw [ep2] at HWr
  obtain ⟨po, epo⟩ : ∃ po, pwrong (sb off) 4 12 = po := ⟨_, rfl⟩
  rw [epo] at HWo ho
  obtain ⟨o1, o2⟩ := po
  simp only at HWr HWo ho
  have i1 : (o1 != 0) = true := by simp; exact ho
  clear hw ep2 epo ho
  go_enter Tryd.func9, Tryd.ntmps9
  go_wp2_with (first
    | ((with_reducible show wpList _ _ _ _ _ w); refine box_blk (w := w) rfl 41 _ rfl k rfl ?_; intro w0 hK0 hG0 hz0; have hM0 : Below w.heap.size w w0 := below_none (Below.refl _ _) (Nat.le_refl _) hG0)
    | (go_at_call 21; with_reducible refine (HWr.out w0).mono ?_; rintro e wq ⟨rfl, hq⟩; have hq1 := hq.symm; subst hq1)
    | (go_at_call 21; with_reducible refine (HWo.out w0).mono ?_; rintro e wq ⟨rfl, hq⟩; have hq1 := hq.symm; subst hq1)
    | (go_at_call 22; (with_reducible show Calls _ _ _ w0 _); refine (HA.out w0).mono ?_; rintro e w1 ⟨rfl, hL1⟩; have hM1 := below_more hM0 hL1 hM0.size)
    | (go_at_call 22; (with_reducible show Calls _ _ _ w1 _); refine (HA.out w1).mono ?_; rintro e w2 ⟨rfl, hL2⟩; have hM2 := below_more hM1 hL2 hM1.size))
  go_ret
  exact ⟨rfl, hM2⟩
set_option maxHeartbeats 3200000 in
set_option maxRecDepth 100000 in
theorem OB_len (k : List UInt8) (pan off other : ByteArray) (w : World) (hE : Et w) (hk : k.length = 16) (hw : pwrong (sb pan) 13 19 = (0, -1)) (ho : pwrong (sb off) 4 12 = (0, -1)) (hs : other.size ≠ off.size) :
    Calls Tryd.prog 9 #[.agg (Bs k), .string pan, .string off, .string other] w fun e w' => e = .returned (.bool true) ∧ Below w.heap.size w w' := by
  obtain ⟨N, hN⟩ : ∃ N, w.heap.size = N := ⟨_, rfl⟩
  have HN := Lib.hid hN
  have HK := Lib.hid hk
  have HE := Lib.hid hE
  have HA := Lib.hid (fun w => awake15_any w)
  have HWr := Lib.hid (fun w => Wrong13 pan w)
  have HWo := Lib.hid (fun w => Wrong4 off w)
  rw [hw] at HWr
  rw [ho] at HWo
  have hol := pwrong_ok (l := sb off) (a := 4) (b := 12) (by rw [ho])
  rw [sb_len] at hol
  have HDa := Lib.hid (fun w => Data_ok pan w hw)
  have hds := pdat_size pan hw
  have hdd := pdat_dig pan hw
  obtain ⟨D, eD⟩ : ∃ D, pdat pan = D := ⟨_, rfl⟩
  rw [eD] at HDa hds hdd
  obtain ⟨m, em⟩ : ∃ m, off.size = m := ⟨_, rfl⟩
  have HNx := Lib.hid (fun (v : Value) (w1 : World) (h : SlB w1 v k) => by
    have h1 := Natural_any v k D TAB (off.size : Int) w1 h
    rw [pnat_key k hk D TAB hds hdd tab_ok.1 tab_ok.2 off.size (by omega) (by omega)] at h1
    exact h1)
  have hnl : (pnatL k D TAB off.size).length = off.size := pnatL_len _ _ _ _ (by omega)
  have hnd : pf 10 (pnatL k D TAB off.size) = -1 := pnatL_dig _ _ _ _ tab_ok.1 tab_ok.2
  obtain ⟨nn, enn⟩ : ∃ nn, pnatL k D TAB off.size = nn := ⟨_, rfl⟩
  rw [enn] at HNx hnl hnd
  have HMo := Lib.hid (fun w => by
    have h1 := rMod_any (ofL nn) off false w (by rw [ofL_size]; omega) (by rw [ofL_size]; omega) (by rw [sb_ofL]; exact hnd) hol.2.2.1
    rw [sb_ofL] at h1
    exact h1)
  have hpl : (pmod nn (sb off) false).length = off.size := by rw [pmod_len, hnl]
  have hpd : pf 10 (pmod nn (sb off) false) = -1 := pf_of_all (pmod_dig _ _ _)
  have hbk : pmod (pmod nn (sb off) false) nn true = sb off := pmod_back nn (sb off) (by rw [hnl, sb_len]) hnd hol.2.2.1
  have hof : ∀ q : ByteArray, q.size = off.size → pf 10 (sb q) = -1 → pof k D TAB q = (ofL (pmod (sb q) nn true), 0, -1) := fun q hq1 hq2 => by
    rw [pof_key k hk D TAB q hds hdd tab_ok.1 tab_ok.2 (by omega) (by omega) hq2, hq1, enn]
  have hv1 : pver k D TAB off (ofL (pmod nn (sb off) false)) = (0, -1) := by
    unfold pver
    rw [hof _ (by rw [ofL_size, hpl]) (by rw [sb_ofL]; exact hpd), if_neg (by simp), if_neg (by rw [ofL_size, hpl]; simp), hol.2.2.1, if_neg (by omega), sb_ofL, sb_ofL, hbk, if_pos rfl]

  obtain ⟨PP, ePP⟩ : ∃ PP, ofL (pmod nn (sb off) false) = PP := ⟨_, rfl⟩
  have hPs : PP.size ≤ 1000 := by rw [← ePP, ofL_size, hpl]; omega
  have hos : off.size ≤ 1000 := by omega
  rw [ePP] at HMo hv1
  have HV1 := Lib.hid (fun (v : Value) (w1 : World) (h : SlB w1 v k) => by
    have h1 := VerifyO_any v k D TAB off PP w1 h hPs hos
    rw [hv1] at h1
    exact h1)
  have i1 : ((other.size : Int) != (off.size : Int)) = true := by simp; omega
  clear hE hk hw ho hol hds hdd eD em hnl hnd enn hpl hpd hbk hof hv1 hPs hos hs ePP
  go_enter Tryd.func9, Tryd.ntmps9
  go_wp2_with (first
    | ((with_reducible show wpList _ _ _ _ _ w); refine box_blk (w := w) rfl 41 _ rfl k rfl ?_; intro w0 hK0 hG0 hz0; rw [HN.out] at hK0 hz0 ⊢; have hM0 : Below N w w0 := below_none (Below.refl _ _) (by rw [HN.out]; omega) hG0; clear hG0)
    | (go_at_call 21; with_reducible refine (HWr.out w0).mono ?_; rintro e wq ⟨rfl, hq⟩; have hq1 := hq.symm; subst hq1)
    | (go_at_call 21; with_reducible refine (HWo.out w0).mono ?_; rintro e wq ⟨rfl, hq⟩; have hq1 := hq.symm; subst hq1)
    | (go_at_call 22; (with_reducible show Calls _ _ _ w0 _); refine (HA.out w0).mono ?_; rintro e w1 ⟨rfl, hL1⟩; have hM1 := below_more hM0 hL1 (by omega); have hK1 := hK0.under hL1; have hz1 := hL1.size; clear hL1)
    | (go_at_call 23; refine (HDa.out w1).mono ?_; rintro e w2 ⟨rfl, hL2⟩; have hM2 := below_more hM1 hL2 (by omega); have hK2 := hK1.under hL2; have hz2 := hL2.size; clear hL2)
    | (go_at_call 24; refine (HNx.out _ w2 (hK2.slB (n := 16) HK.out (by decide))).mono ?_; rintro e w3 ⟨v3, rfl, hE3, hL3⟩; obtain rfl := hE3.nil; have hM3 := below_more hM2 hL3 (by omega); have hK3 := hK2.under hL3; have hz3 := hL3.size; clear hL3)
    | (go_at_call 25; refine (HMo.out w3).mono ?_; rintro e w4 ⟨rfl, hL4⟩; have hM4 := below_more hM3 hL4 (by omega); have hK4 := hK3.under hL4; have hz4 := hL4.size; clear hL4)
    | (go_at_call 26; (with_reducible show Calls _ _ _ w4 _); refine (HV1.out _ w4 (hK4.slB (n := 16) HK.out (by decide))).mono ?_; rintro e w5 ⟨v5, rfl, hE5, hL5⟩; obtain rfl := hE5.nil; have hM5 := below_more hM4 hL5 (by omega); have hK5 := hK4.under hL5; have hz5 := hL5.size; clear hL5)
)
  go_ret
  exact ⟨rfl, by rw [HN.out]; exact hM5⟩
set_option maxHeartbeats 3200000 in
set_option maxRecDepth 100000 in
theorem OB_dig (k : List UInt8) (pan off other : ByteArray) (w : World) (hE : Et w) (hk : k.length = 16) (hw : pwrong (sb pan) 13 19 = (0, -1)) (ho : pwrong (sb off) 4 12 = (0, -1)) (hs : other.size = off.size) (j : Nat) (hj : pf 10 (sb other) = (j : Int)) :
    Calls Tryd.prog 9 #[.agg (Bs k), .string pan, .string off, .string other] w fun e w' => e = .returned (.bool true) ∧ Below w.heap.size w w' := by
  obtain ⟨N, hN⟩ : ∃ N, w.heap.size = N := ⟨_, rfl⟩
  have HN := Lib.hid hN
  have HK := Lib.hid hk
  have HE := Lib.hid hE
  have HA := Lib.hid (fun w => awake15_any w)
  have HWr := Lib.hid (fun w => Wrong13 pan w)
  have HWo := Lib.hid (fun w => Wrong4 off w)
  rw [hw] at HWr
  rw [ho] at HWo
  have hol := pwrong_ok (l := sb off) (a := 4) (b := 12) (by rw [ho])
  rw [sb_len] at hol
  have HDa := Lib.hid (fun w => Data_ok pan w hw)
  have hds := pdat_size pan hw
  have hdd := pdat_dig pan hw
  obtain ⟨D, eD⟩ : ∃ D, pdat pan = D := ⟨_, rfl⟩
  rw [eD] at HDa hds hdd
  obtain ⟨m, em⟩ : ∃ m, off.size = m := ⟨_, rfl⟩
  have HNx := Lib.hid (fun (v : Value) (w1 : World) (h : SlB w1 v k) => by
    have h1 := Natural_any v k D TAB (off.size : Int) w1 h
    rw [pnat_key k hk D TAB hds hdd tab_ok.1 tab_ok.2 off.size (by omega) (by omega)] at h1
    exact h1)
  have hnl : (pnatL k D TAB off.size).length = off.size := pnatL_len _ _ _ _ (by omega)
  have hnd : pf 10 (pnatL k D TAB off.size) = -1 := pnatL_dig _ _ _ _ tab_ok.1 tab_ok.2
  obtain ⟨nn, enn⟩ : ∃ nn, pnatL k D TAB off.size = nn := ⟨_, rfl⟩
  rw [enn] at HNx hnl hnd
  have HMo := Lib.hid (fun w => by
    have h1 := rMod_any (ofL nn) off false w (by rw [ofL_size]; omega) (by rw [ofL_size]; omega) (by rw [sb_ofL]; exact hnd) hol.2.2.1
    rw [sb_ofL] at h1
    exact h1)
  have hpl : (pmod nn (sb off) false).length = off.size := by rw [pmod_len, hnl]
  have hpd : pf 10 (pmod nn (sb off) false) = -1 := pf_of_all (pmod_dig _ _ _)
  have hbk : pmod (pmod nn (sb off) false) nn true = sb off := pmod_back nn (sb off) (by rw [hnl, sb_len]) hnd hol.2.2.1
  have hof : ∀ q : ByteArray, q.size = off.size → pf 10 (sb q) = -1 → pof k D TAB q = (ofL (pmod (sb q) nn true), 0, -1) := fun q hq1 hq2 => by
    rw [pof_key k hk D TAB q hds hdd tab_ok.1 tab_ok.2 (by omega) (by omega) hq2, hq1, enn]
  have hv1 : pver k D TAB off (ofL (pmod nn (sb off) false)) = (0, -1) := by
    unfold pver
    rw [hof _ (by rw [ofL_size, hpl]) (by rw [sb_ofL]; exact hpd), if_neg (by simp), if_neg (by rw [ofL_size, hpl]; simp), hol.2.2.1, if_neg (by omega), sb_ofL, sb_ofL, hbk, if_pos rfl]

  obtain ⟨PP, ePP⟩ : ∃ PP, ofL (pmod nn (sb off) false) = PP := ⟨_, rfl⟩
  have hPs : PP.size ≤ 1000 := by rw [← ePP, ofL_size, hpl]; omega
  have hos : off.size ≤ 1000 := by omega
  rw [ePP] at HMo hv1
  have HV1 := Lib.hid (fun (v : Value) (w1 : World) (h : SlB w1 v k) => by
    have h1 := VerifyO_any v k D TAB off PP w1 h hPs hos
    rw [hv1] at h1
    exact h1)
  have i1 : ((other.size : Int) != (off.size : Int)) = false := by simp; omega
  have HFi := Lib.hid (fun w => First10 other w (by omega))
  rw [hj] at HFi
  have i2 : (j : Int) ≥ 0 := by omega
  clear hE hk hw ho hol hds hdd eD em hnl hnd enn hpl hpd hbk hof hv1 hPs hos hs hj ePP
  go_enter Tryd.func9, Tryd.ntmps9
  go_wp2_with (first
    | ((with_reducible show wpList _ _ _ _ _ w); refine box_blk (w := w) rfl 41 _ rfl k rfl ?_; intro w0 hK0 hG0 hz0; rw [HN.out] at hK0 hz0 ⊢; have hM0 : Below N w w0 := below_none (Below.refl _ _) (by rw [HN.out]; omega) hG0; clear hG0)
    | (go_at_call 21; with_reducible refine (HWr.out w0).mono ?_; rintro e wq ⟨rfl, hq⟩; have hq1 := hq.symm; subst hq1)
    | (go_at_call 21; with_reducible refine (HWo.out w0).mono ?_; rintro e wq ⟨rfl, hq⟩; have hq1 := hq.symm; subst hq1)
    | (go_at_call 22; (with_reducible show Calls _ _ _ w0 _); refine (HA.out w0).mono ?_; rintro e w1 ⟨rfl, hL1⟩; have hM1 := below_more hM0 hL1 (by omega); have hK1 := hK0.under hL1; have hz1 := hL1.size; clear hL1)
    | (go_at_call 23; refine (HDa.out w1).mono ?_; rintro e w2 ⟨rfl, hL2⟩; have hM2 := below_more hM1 hL2 (by omega); have hK2 := hK1.under hL2; have hz2 := hL2.size; clear hL2)
    | (go_at_call 24; refine (HNx.out _ w2 (hK2.slB (n := 16) HK.out (by decide))).mono ?_; rintro e w3 ⟨v3, rfl, hE3, hL3⟩; obtain rfl := hE3.nil; have hM3 := below_more hM2 hL3 (by omega); have hK3 := hK2.under hL3; have hz3 := hL3.size; clear hL3)
    | (go_at_call 25; refine (HMo.out w3).mono ?_; rintro e w4 ⟨rfl, hL4⟩; have hM4 := below_more hM3 hL4 (by omega); have hK4 := hK3.under hL4; have hz4 := hL4.size; clear hL4)
    | (go_at_call 26; (with_reducible show Calls _ _ _ w4 _); refine (HV1.out _ w4 (hK4.slB (n := 16) HK.out (by decide))).mono ?_; rintro e w5 ⟨v5, rfl, hE5, hL5⟩; obtain rfl := hE5.nil; have hM5 := below_more hM4 hL5 (by omega); have hK5 := hK4.under hL5; have hz5 := hL5.size; clear hL5)
    | (go_at_call 27; refine (HFi.out w5).mono ?_; rintro e wq ⟨rfl, hq⟩; have hq1 := hq.symm; subst hq1))
  go_ret
  exact ⟨rfl, by rw [HN.out]; exact hM5⟩
set_option maxHeartbeats 3200000 in
set_option maxRecDepth 100000 in
theorem OB_yes (k : List UInt8) (pan off other : ByteArray) (w : World) (hE : Et w) (hk : k.length = 16) (hw : pwrong (sb pan) 13 19 = (0, -1)) (ho : pwrong (sb off) 4 12 = (0, -1)) (hs : other.size = off.size) (hj : pf 10 (sb other) = -1) (he : other = ofL (pmod (pnatL k (pdat pan) TAB off.size) (sb off) false)) :
    Calls Tryd.prog 9 #[.agg (Bs k), .string pan, .string off, .string other] w fun e w' => e = .returned (.bool true) ∧ Below w.heap.size w w' := by
  obtain ⟨N, hN⟩ : ∃ N, w.heap.size = N := ⟨_, rfl⟩
  have HN := Lib.hid hN
  have HK := Lib.hid hk
  have HE := Lib.hid hE
  have HA := Lib.hid (fun w => awake15_any w)
  have HWr := Lib.hid (fun w => Wrong13 pan w)
  have HWo := Lib.hid (fun w => Wrong4 off w)
  rw [hw] at HWr
  rw [ho] at HWo
  have hol := pwrong_ok (l := sb off) (a := 4) (b := 12) (by rw [ho])
  rw [sb_len] at hol
  have HDa := Lib.hid (fun w => Data_ok pan w hw)
  have hds := pdat_size pan hw
  have hdd := pdat_dig pan hw
  obtain ⟨D, eD⟩ : ∃ D, pdat pan = D := ⟨_, rfl⟩
  rw [eD] at HDa hds hdd he
  obtain ⟨m, em⟩ : ∃ m, off.size = m := ⟨_, rfl⟩
  have HNx := Lib.hid (fun (v : Value) (w1 : World) (h : SlB w1 v k) => by
    have h1 := Natural_any v k D TAB (off.size : Int) w1 h
    rw [pnat_key k hk D TAB hds hdd tab_ok.1 tab_ok.2 off.size (by omega) (by omega)] at h1
    exact h1)
  have hnl : (pnatL k D TAB off.size).length = off.size := pnatL_len _ _ _ _ (by omega)
  have hnd : pf 10 (pnatL k D TAB off.size) = -1 := pnatL_dig _ _ _ _ tab_ok.1 tab_ok.2
  obtain ⟨nn, enn⟩ : ∃ nn, pnatL k D TAB off.size = nn := ⟨_, rfl⟩
  rw [enn] at HNx hnl hnd he
  have HMo := Lib.hid (fun w => by
    have h1 := rMod_any (ofL nn) off false w (by rw [ofL_size]; omega) (by rw [ofL_size]; omega) (by rw [sb_ofL]; exact hnd) hol.2.2.1
    rw [sb_ofL] at h1
    exact h1)
  have hpl : (pmod nn (sb off) false).length = off.size := by rw [pmod_len, hnl]
  have hpd : pf 10 (pmod nn (sb off) false) = -1 := pf_of_all (pmod_dig _ _ _)
  have hbk : pmod (pmod nn (sb off) false) nn true = sb off := pmod_back nn (sb off) (by rw [hnl, sb_len]) hnd hol.2.2.1
  have hof : ∀ q : ByteArray, q.size = off.size → pf 10 (sb q) = -1 → pof k D TAB q = (ofL (pmod (sb q) nn true), 0, -1) := fun q hq1 hq2 => by
    rw [pof_key k hk D TAB q hds hdd tab_ok.1 tab_ok.2 (by omega) (by omega) hq2, hq1, enn]
  have hv1 : pver k D TAB off (ofL (pmod nn (sb off) false)) = (0, -1) := by
    unfold pver
    rw [hof _ (by rw [ofL_size, hpl]) (by rw [sb_ofL]; exact hpd), if_neg (by simp), if_neg (by rw [ofL_size, hpl]; simp), hol.2.2.1, if_neg (by omega), sb_ofL, sb_ofL, hbk, if_pos rfl]
  have hv2 : pver k D TAB off other = (0, -1) := by rw [he]; exact hv1
  obtain ⟨PP, ePP⟩ : ∃ PP, ofL (pmod nn (sb off) false) = PP := ⟨_, rfl⟩
  have hPs : PP.size ≤ 1000 := by rw [← ePP, ofL_size, hpl]; omega
  have hos : off.size ≤ 1000 := by omega
  rw [ePP] at HMo hv1
  have HV1 := Lib.hid (fun (v : Value) (w1 : World) (h : SlB w1 v k) => by
    have h1 := VerifyO_any v k D TAB off PP w1 h hPs hos
    rw [hv1] at h1
    exact h1)
  have i1 : ((other.size : Int) != (off.size : Int)) = false := by simp; omega
  have HFi := Lib.hid (fun w => First10 other w (by omega))
  rw [hj] at HFi
  have HV2 := Lib.hid (fun (v : Value) (w1 : World) (h : SlB w1 v k) => by
    have h1 := VerifyO_any v k D TAB off other w1 h (by omega) hos
    rw [hv2] at h1
    exact h1)
  rw [ePP] at he
  have hst : (other.toList == PP.toList) = true := by rw [he]; exact beq_self_eq_true _
  clear hE hk hw ho hol hds hdd eD em hnl hnd enn hpl hpd hbk hof hv1 hPs hos hs hj hv2 ePP he
  go_enter Tryd.func9, Tryd.ntmps9
  go_wp2_with (first
    | ((with_reducible show wpList _ _ _ _ _ w); refine box_blk (w := w) rfl 41 _ rfl k rfl ?_; intro w0 hK0 hG0 hz0; rw [HN.out] at hK0 hz0 ⊢; have hM0 : Below N w w0 := below_none (Below.refl _ _) (by rw [HN.out]; omega) hG0; clear hG0)
    | (go_at_call 21; with_reducible refine (HWr.out w0).mono ?_; rintro e wq ⟨rfl, hq⟩; have hq1 := hq.symm; subst hq1)
    | (go_at_call 21; with_reducible refine (HWo.out w0).mono ?_; rintro e wq ⟨rfl, hq⟩; have hq1 := hq.symm; subst hq1)
    | (go_at_call 22; (with_reducible show Calls _ _ _ w0 _); refine (HA.out w0).mono ?_; rintro e w1 ⟨rfl, hL1⟩; have hM1 := below_more hM0 hL1 (by omega); have hK1 := hK0.under hL1; have hz1 := hL1.size; clear hL1)
    | (go_at_call 23; refine (HDa.out w1).mono ?_; rintro e w2 ⟨rfl, hL2⟩; have hM2 := below_more hM1 hL2 (by omega); have hK2 := hK1.under hL2; have hz2 := hL2.size; clear hL2)
    | (go_at_call 24; refine (HNx.out _ w2 (hK2.slB (n := 16) HK.out (by decide))).mono ?_; rintro e w3 ⟨v3, rfl, hE3, hL3⟩; obtain rfl := hE3.nil; have hM3 := below_more hM2 hL3 (by omega); have hK3 := hK2.under hL3; have hz3 := hL3.size; clear hL3)
    | (go_at_call 25; refine (HMo.out w3).mono ?_; rintro e w4 ⟨rfl, hL4⟩; have hM4 := below_more hM3 hL4 (by omega); have hK4 := hK3.under hL4; have hz4 := hL4.size; clear hL4)
    | (go_at_call 26; (with_reducible show Calls _ _ _ w4 _); refine (HV1.out _ w4 (hK4.slB (n := 16) HK.out (by decide))).mono ?_; rintro e w5 ⟨v5, rfl, hE5, hL5⟩; obtain rfl := hE5.nil; have hM5 := below_more hM4 hL5 (by omega); have hK5 := hK4.under hL5; have hz5 := hL5.size; clear hL5)
    | (go_at_call 27; refine (HFi.out w5).mono ?_; rintro e wq ⟨rfl, hq⟩; have hq1 := hq.symm; subst hq1)
    | (go_at_call 26; (with_reducible show Calls _ _ _ w5 _); refine (HV2.out _ w5 (hK5.slB (n := 16) HK.out (by decide))).mono ?_; rintro e w6 ⟨v6, rfl, hE6, hL6⟩; obtain rfl := hE6.nil; have hM6 := below_more hM5 hL6 (by omega); have hz6 := hL6.size))
  go_ret
  exact ⟨rfl, by rw [HN.out]; exact hM6⟩
set_option maxHeartbeats 3200000 in
set_option maxRecDepth 100000 in
theorem OB_no (k : List UInt8) (pan off other : ByteArray) (w : World) (hE : Et w) (hk : k.length = 16) (hw : pwrong (sb pan) 13 19 = (0, -1)) (ho : pwrong (sb off) 4 12 = (0, -1)) (hs : other.size = off.size) (hj : pf 10 (sb other) = -1) (he : ¬ other = ofL (pmod (pnatL k (pdat pan) TAB off.size) (sb off) false)) :
    Calls Tryd.prog 9 #[.agg (Bs k), .string pan, .string off, .string other] w fun e w' => e = .returned (.bool true) ∧ Below w.heap.size w w' := by
  obtain ⟨N, hN⟩ : ∃ N, w.heap.size = N := ⟨_, rfl⟩
  have HN := Lib.hid hN
  have HK := Lib.hid hk
  have HE := Lib.hid hE
  have HA := Lib.hid (fun w => awake15_any w)
  have HWr := Lib.hid (fun w => Wrong13 pan w)
  have HWo := Lib.hid (fun w => Wrong4 off w)
  rw [hw] at HWr
  rw [ho] at HWo
  have hol := pwrong_ok (l := sb off) (a := 4) (b := 12) (by rw [ho])
  rw [sb_len] at hol
  have HDa := Lib.hid (fun w => Data_ok pan w hw)
  have hds := pdat_size pan hw
  have hdd := pdat_dig pan hw
  obtain ⟨D, eD⟩ : ∃ D, pdat pan = D := ⟨_, rfl⟩
  rw [eD] at HDa hds hdd he
  obtain ⟨m, em⟩ : ∃ m, off.size = m := ⟨_, rfl⟩
  have HNx := Lib.hid (fun (v : Value) (w1 : World) (h : SlB w1 v k) => by
    have h1 := Natural_any v k D TAB (off.size : Int) w1 h
    rw [pnat_key k hk D TAB hds hdd tab_ok.1 tab_ok.2 off.size (by omega) (by omega)] at h1
    exact h1)
  have hnl : (pnatL k D TAB off.size).length = off.size := pnatL_len _ _ _ _ (by omega)
  have hnd : pf 10 (pnatL k D TAB off.size) = -1 := pnatL_dig _ _ _ _ tab_ok.1 tab_ok.2
  obtain ⟨nn, enn⟩ : ∃ nn, pnatL k D TAB off.size = nn := ⟨_, rfl⟩
  rw [enn] at HNx hnl hnd he
  have HMo := Lib.hid (fun w => by
    have h1 := rMod_any (ofL nn) off false w (by rw [ofL_size]; omega) (by rw [ofL_size]; omega) (by rw [sb_ofL]; exact hnd) hol.2.2.1
    rw [sb_ofL] at h1
    exact h1)
  have hpl : (pmod nn (sb off) false).length = off.size := by rw [pmod_len, hnl]
  have hpd : pf 10 (pmod nn (sb off) false) = -1 := pf_of_all (pmod_dig _ _ _)
  have hbk : pmod (pmod nn (sb off) false) nn true = sb off := pmod_back nn (sb off) (by rw [hnl, sb_len]) hnd hol.2.2.1
  have hof : ∀ q : ByteArray, q.size = off.size → pf 10 (sb q) = -1 → pof k D TAB q = (ofL (pmod (sb q) nn true), 0, -1) := fun q hq1 hq2 => by
    rw [pof_key k hk D TAB q hds hdd tab_ok.1 tab_ok.2 (by omega) (by omega) hq2, hq1, enn]
  have hv1 : pver k D TAB off (ofL (pmod nn (sb off) false)) = (0, -1) := by
    unfold pver
    rw [hof _ (by rw [ofL_size, hpl]) (by rw [sb_ofL]; exact hpd), if_neg (by simp), if_neg (by rw [ofL_size, hpl]; simp), hol.2.2.1, if_neg (by omega), sb_ofL, sb_ofL, hbk, if_pos rfl]
  have hv2 : pver k D TAB off other = (12, -1) := by
    unfold pver
    rw [hof other hs hj, if_neg (by simp), if_neg (by simp [hs]), hol.2.2.1, if_neg (by omega), sb_ofL, if_neg]
    intro h
    refine he (sb_inj ?_)
    rw [sb_ofL, h, pmod_forth nn (sb other) (by rw [hnl, sb_len, hs]) hnd hj]
  obtain ⟨PP, ePP⟩ : ∃ PP, ofL (pmod nn (sb off) false) = PP := ⟨_, rfl⟩
  have hPs : PP.size ≤ 1000 := by rw [← ePP, ofL_size, hpl]; omega
  have hos : off.size ≤ 1000 := by omega
  rw [ePP] at HMo hv1
  have HV1 := Lib.hid (fun (v : Value) (w1 : World) (h : SlB w1 v k) => by
    have h1 := VerifyO_any v k D TAB off PP w1 h hPs hos
    rw [hv1] at h1
    exact h1)
  have i1 : ((other.size : Int) != (off.size : Int)) = false := by simp; omega
  have HFi := Lib.hid (fun w => First10 other w (by omega))
  rw [hj] at HFi
  have HV2 := Lib.hid (fun (v : Value) (w1 : World) (h : SlB w1 v k) => by
    have h1 := VerifyO_any v k D TAB off other w1 h (by omega) hos
    rw [hv2] at h1
    exact h1)
  rw [ePP] at he
  have hst : (other.toList == PP.toList) = false := by
    rw [ByteArray.toList_eq, ByteArray.toList_eq]
    have : ¬ sb other = sb PP := fun h => he (sb_inj h)
    simpa [sb] using this
  clear hE hk hw ho hol hds hdd eD em hnl hnd enn hpl hpd hbk hof hv1 hPs hos hs hj hv2 ePP he
  go_enter Tryd.func9, Tryd.ntmps9
  go_wp2_with (first
    | ((with_reducible show wpList _ _ _ _ _ w); refine box_blk (w := w) rfl 41 _ rfl k rfl ?_; intro w0 hK0 hG0 hz0; rw [HN.out] at hK0 hz0 ⊢; have hM0 : Below N w w0 := below_none (Below.refl _ _) (by rw [HN.out]; omega) hG0; clear hG0)
    | (go_at_call 21; with_reducible refine (HWr.out w0).mono ?_; rintro e wq ⟨rfl, hq⟩; have hq1 := hq.symm; subst hq1)
    | (go_at_call 21; with_reducible refine (HWo.out w0).mono ?_; rintro e wq ⟨rfl, hq⟩; have hq1 := hq.symm; subst hq1)
    | (go_at_call 22; (with_reducible show Calls _ _ _ w0 _); refine (HA.out w0).mono ?_; rintro e w1 ⟨rfl, hL1⟩; have hM1 := below_more hM0 hL1 (by omega); have hK1 := hK0.under hL1; have hz1 := hL1.size; clear hL1)
    | (go_at_call 23; refine (HDa.out w1).mono ?_; rintro e w2 ⟨rfl, hL2⟩; have hM2 := below_more hM1 hL2 (by omega); have hK2 := hK1.under hL2; have hz2 := hL2.size; clear hL2)
    | (go_at_call 24; refine (HNx.out _ w2 (hK2.slB (n := 16) HK.out (by decide))).mono ?_; rintro e w3 ⟨v3, rfl, hE3, hL3⟩; obtain rfl := hE3.nil; have hM3 := below_more hM2 hL3 (by omega); have hK3 := hK2.under hL3; have hz3 := hL3.size; clear hL3)
    | (go_at_call 25; refine (HMo.out w3).mono ?_; rintro e w4 ⟨rfl, hL4⟩; have hM4 := below_more hM3 hL4 (by omega); have hK4 := hK3.under hL4; have hz4 := hL4.size; clear hL4)
    | (go_at_call 26; (with_reducible show Calls _ _ _ w4 _); refine (HV1.out _ w4 (hK4.slB (n := 16) HK.out (by decide))).mono ?_; rintro e w5 ⟨v5, rfl, hE5, hL5⟩; obtain rfl := hE5.nil; have hM5 := below_more hM4 hL5 (by omega); have hK5 := hK4.under hL5; have hz5 := hL5.size; clear hL5)
    | (go_at_call 27; refine (HFi.out w5).mono ?_; rintro e wq ⟨rfl, hq⟩; have hq1 := hq.symm; subst hq1)
    | (go_at_call 26; (with_reducible show Calls _ _ _ w5 _); refine (HV2.out _ w5 (hK5.slB (n := 16) HK.out (by decide))).mono ?_; rintro e w6 ⟨v6, rfl, hE6, hL6⟩; obtain ⟨eT, ex, rfl⟩ := hE6.form (by decide); have HE6 := Lib.hid hE6; have hM6 := below_more hM5 hL6 (by omega); have hz6 := hL6.size)
    | (go_at_call 13; (with_reducible show Calls _ _ _ w6 _); refine (Code_of (HE.out.below (by rw [HN.out]; exact hM6)) HE6.out).mono ?_; rintro e w7 ⟨rfl, hL7⟩; have hM7 := below_more hM6 hL7 (by omega)))
  go_ret
  exact ⟨rfl, by rw [HN.out]; exact hM7⟩
theorem OffsetBack_any (k : List UInt8) (pan off other : ByteArray) (w : World) (hE : Et w) (hk : k.length = 16) :
    Calls Tryd.prog 9 #[.agg (Bs k), .string pan, .string off, .string other] w fun e w' => e = .returned (.bool true) ∧ Below w.heap.size w w' := by
  by_cases hw : (pwrong (sb pan) 13 19).1 ≠ 0
  · exact OB_pan k pan off other w hk hw
  have hw0 : (pwrong (sb pan) 13 19).1 = 0 := by simpa using hw
  by_cases ho : (pwrong (sb off) 4 12).1 ≠ 0
  · exact OB_off k pan off other w hk hw0 ho
  have hp := (pwrong_ok (l := sb pan) (a := 13) (b := 19) hw0).2.2.2
  have hq := (pwrong_ok (l := sb off) (a := 4) (b := 12) (by simpa using ho)).2.2.2
  by_cases hs : other.size = off.size
  · rcases pf_cases 10 (sb other) with ⟨h3, _⟩ | ⟨j, h3, hj3, _⟩
    · by_cases he : other = ofL (pmod (pnatL k (pdat pan) TAB off.size) (sb off) false)
      · exact OB_yes k pan off other w hE hk hp hq hs h3 he
      · exact OB_no k pan off other w hE hk hp hq hs h3 he
    · exact OB_dig k pan off other w hE hk hp hq hs j h3
  · exact OB_len k pan off other w hE hk hp hq hs
end Go.Proofs.YtbbfjlnkhenbiaaDoor
set_option linter.unusedVariables false
set_option linter.unusedSimpArgs false
namespace Lk
open Go Go.RowKit
/-- a slice of whole numbers as it is read -/
def IsRow (k : IntKind) (w : World) (a : Option Addr) (len cap : Nat) (zs : List Int) : Prop :=
  (a = none ∧ len = 0 ∧ cap = 0 ∧ zs = []) ∨
  ∃ x, a = some x ∧ len ≤ cap ∧ cap ≤ maxLen ∧ zs.length = cap ∧ (∀ i, i < zs.length → w.cell? (x.add i) = some (.int k (zs.getD i 0))) ∧ ∀ n ∈ zs, (Lit.int k n).wf = true
theorem u8_of_wf {n : Int} (h : (Lit.int .u8 n).wf = true) : n = bv (UInt8.ofNat n.toNat) := by
  obtain ⟨a, rfl⟩ := open_u8 h
  unfold bv
  simp
theorem slB_of_row {w : World} {a : Option Addr} {len cap : Nat} {zs : List Int} (h : IsRow .u8 w a len cap zs) : ∃ l : List UInt8, l.length = len ∧ SlB w (.slice a len cap) l := by
  rcases h with ⟨rfl, rfl, rfl, rfl⟩ | ⟨x, rfl, h1, h2, h3, h4, h5⟩
  · exact ⟨[], rfl, none, 0, rfl, fun _ => rfl, Nat.le_refl _, Nat.zero_le _, fun h => by omega⟩
  · have hl : ((zs.take len).map fun z => UInt8.ofNat z.toNat).length = len := by simp; omega
    refine ⟨(zs.take len).map fun z => UInt8.ofNat z.toNat, hl, some x, cap, by rw [hl], fun h => (by cases h), by rw [hl]; exact h1, h2, fun hc => ?_⟩
    have hx : x.spot = none := by
      have := h4 0 (by omega)
      have e : x.add 0 = x := by simp [Addr.add]
      rw [e] at this
      unfold World.cell? at this
      split at this
      · split at this
        · cases this
        · rename_i hs; simpa using hs
      · cases this
    obtain ⟨g, o, s⟩ := x
    cases hx
    refine ⟨g, o, rfl, fun k hk => ?_⟩
    rw [hl] at hk
    have hc := h4 k (by omega)
    have ea : (⟨g, o, none⟩ : Addr).add k = ⟨g, o + k, none⟩ := by unfold Addr.add; split <;> simp_all
    rw [ea] at hc
    rw [hc]
    have hm : zs.getD k 0 ∈ zs := by
      have : k < zs.length := by omega
      simp [this]
    have := u8_of_wf (h5 _ hm)
    have e : g8 ((zs.take len).map fun z => UInt8.ofNat z.toNat) k = UInt8.ofNat (zs.getD k 0).toNat := by
      unfold g8
      have : k < zs.length := by omega
      simp [List.getElem?_take, hk, this]
    rw [e, ← this]
section
variable {P : Program} {H : Type} {enc : TypeId × Value → H}
theorem open_slice_u8 {t e : TypeId} {W : World} {a : Option Addr} {len cap : Nat} {d : DataW H} {ps : List MemPlace} (ht : P.underlying t = some (.slice e)) (he : P.underlying e = some (.int .u8)) (hc : P.cellsOf e = 1)
    (h : DataW.Trod enc P W 0 (fun _ => true) true t (.slice a len cap) d ps) : ∃ l : List UInt8, l.length = len ∧ SlB W (.slice a len cap) l := by
  obtain ⟨zs, hz⟩ : ∃ zs, IsRow .u8 W a len cap zs := by
    obtain ⟨fuel, hf⟩ := h
    rcases Go.ChangeShapes.open_ints ht he hc hf with ⟨hcs, _⟩ | ⟨x, l, c, zs, hcs, _, hl, hm, hz, _, hcell, hwz⟩
    · simp [Value.cells] at hcs
      obtain ⟨rfl, rfl, rfl⟩ := hcs
      exact ⟨[], .inl ⟨rfl, rfl, rfl, rfl⟩⟩
    · simp [Value.cells] at hcs
      obtain ⟨rfl, rfl, rfl⟩ := hcs
      exact ⟨zs, .inr ⟨_, rfl, hl, hm, by simpa using hz, hcell, hwz⟩⟩
  exact slB_of_row hz
/-- an array of bytes -/
theorem open_arr_u8 {t e n : Nat} {W : World} {r : Reach} {base : Nat} {v : Value} (ht : P.underlying t = some (.array n e)) (he : P.underlying e = some (.int .u8)) (hc : P.cellsOf t = n) (hct : P.cellTypes P.depth t = some (List.replicate n e)) (hn : 0 < n)
    (h : Value.okWide P W r base t v) : ∃ l : List UInt8, l.length = n ∧ v = .agg (Bs l) := by
  simp only [Value.okWide, ht] at h
  obtain ⟨cs, rfl, hsz, ts, hts, _, hcell⟩ := h
  rw [hct] at hts
  cases hts
  rw [hc] at hsz
  refine ⟨cs.toList.map fun v => match v with | .int _ z => UInt8.ofNat z.toNat | _ => 0, by simp [hsz], ?_⟩
  congr 1
  apply Array.ext
  · simp [Bs]
  · intro i h1 h2
    obtain ⟨u, hu, hok⟩ := hcell i cs[i] (by simp [h1])
    have hue : u = e := by
      rw [List.getElem?_replicate] at hu
      split at hu
      · cases hu; rfl
      · cases hu
    subst hue
    simp only [Cell.okWide, he] at hok
    simp only [Bs, List.map_map, List.getElem_toArray, List.getElem_map, Function.comp_apply, Array.getElem_toList]
    cases hv : cs[i] with
    | int k z =>
      rw [hv] at hok
      simp only [Cell.ok, he] at hok
      obtain ⟨rfl, hw⟩ := hok
      have hw' : (Lit.int .u8 z).wf = true := by
        unfold Lit.wf
        rw [Bool.and_eq_true]
        exact ⟨decide_eq_true hw.1, decide_eq_true hw.2⟩
      simp only [← u8_of_wf hw']
    | _ => rw [hv] at hok; simp [Cell.ok, he] at hok
end
end Lk
set_option linter.unusedVariables false
namespace Go.Proofs.YtbbfjlnkhenbiaaDoor
open Go.ChangeShapes Go.WideShapes Go.RowKit
theorem ownKnobNone : ownKnob Tryd.prog.godebug = none := by kernel_rfl
theorem laidOutAll : laidOutB Tryd.prog = true := by kernel_rfl
theorem fct_laid : laidOutB Tryd.checked.prog = true := by kernel_rfl
theorem fct_maps : mapsRowed Tryd.checked.prog = true := by kernel_rfl
theorem fct_main : Tryd.pinned.checked.prog.mainIs = some (true, "ee270539b4f67e477ad7bbb92b61b104b35191debdef8cb44a0abfd087db6748".toList) := by kernel_rfl
theorem fct_looks : true = Tryd.pinned.checked.prog.looks [] := by kernel_rfl
def laidList : List (String × DataW Unit) := [("errors.errorType", Rows.laid_errors_errorType)]
theorem et_g : Tryd.prog.globalNamed "errors.errorType" = some 0 := by kernel_rfl
theorem et_rt : (Tryd.prog.cutTypes.find? (·.1 == "internal/reflectlite.rtype")).map (·.2) = some 131 := by kernel_rfl
theorem et_row : ((List.range 216).filter fun t => Tryd.prog.rowNamed t [101, 114, 114, 111, 114]) = [29] := by kernel_rfl
theorem et_size : Tryd.prog.types.size = 216 := by kernel_rfl
theorem handle_of_laid {W : World} (h : laidMetH Tryd.prog laidList W) : Et W := by
  have h' : laidMet Tryd.prog [] W ∧ handlesMet Tryd.prog laidList W := h
  obtain ⟨name, u, ty, e1, e2, e3, e4, e5⟩ := h'.2 _ (List.mem_singleton.2 rfl)
  have en : name = [101, 114, 114, 111, 114] := (Option.some.inj e1).symm
  subst en
  obtain rfl := Option.some.inj (et_rt.symm.trans e2)
  have hm : ty ∈ (List.range 216).filter fun t => Tryd.prog.rowNamed t [101, 114, 114, 111, 114] := List.mem_filter.2 ⟨List.mem_range.2 (by rw [← et_size]; exact e3), e4⟩
  rw [et_row] at hm
  obtain rfl := List.mem_singleton.1 hm
  have hh : typeHandle Tryd.prog 29 = .pointer (some ⟨2, 29, none⟩) := by kernel_rfl
  rw [hh] at e5
  have := World.var?_cell et_g e5 0
  unfold Et hnd
  simpa using this
noncomputable def laidWorld (os : Os) : World :=
  let w0 := World.holding Tryd.prog os ⟨#[], #[], []⟩
  { w0 with heap := w0.heap.modify 0 fun
      | .cells _ t frozen => .cells #[.iface 131 (.agg #[.pointer (some ⟨2, 29, none⟩)])] t frozen
      | o => o }
theorem laidWorld_met (os : Os) (args : Array Value) : laidMetH Tryd.prog laidList ((laidWorld os).forCall (fun _ _ => 0) ⟨#[], args, []⟩).memory :=
  laidMetH_of_parts (laidMet_nil _ _) (by kernel_rfl)
end Go.Proofs.YtbbfjlnkhenbiaaDoor
namespace Go.Proofs.YtbbfjlnkhenbiaaDoor.offsetBack
open Go.ChangeShapes Go.WideShapes Go.ChangeAt Go.RowKit Lk
open Go.ChangeMaps (open_string shut_string)
set_option linter.unusedVariables false
set_option linter.unusedSimpArgs false
set_option maxRecDepth 100000 in
theorem lifted (os : Os) (started : os.Started) (H : Type) (enc : TypeId × Value → H) :
    ReturnsInHanded {} Tryd.checked os 9 .any (fun w args => (Rows.offsetBackSpec.pre enc Tryd.prog Tryd.f9 [] false w args ∧ laidMetH Tryd.prog laidList w) ∧ sizedMet enc Tryd.prog Tryd.f9 (OpenSpec.ofChange Rows.offsetBackSpec) false w args)
      (Rows.offsetBackSpec.post enc Tryd.prog Tryd.f9 false true false false) := by
  refine returnsInHanded_of_change_and (C := Tryd.checked) (X := fun w _ => laidMetH Tryd.prog laidList w) (fun _ _ _ hh h => h.of_heap hh) ownKnobNone started (by kernel_rfl) Tryd.func9
    (ChangeSpec.witness_at (enc := enc) (C := Tryd.checked) (os := os) (X := fun w _ => laidMetH Tryd.prog laidList w) false (laidWorld os) #[.agg #[.int .u8 0, .int .u8 0, .int .u8 0, .int .u8 0, .int .u8 0, .int .u8 0, .int .u8 0, .int .u8 0, .int .u8 0, .int .u8 0, .int .u8 0, .int .u8 0, .int .u8 0, .int .u8 0, .int .u8 0, .int .u8 0], .string ByteArray.empty, .string ByteArray.empty, .string ByteArray.empty] 8 rfl (by kernel_rfl) (by kernel_rfl) (by kernel_rfl) (by kernel_rfl) (by kernel_rfl) (laidWorld_met os _)) ?_
  intro W base args ds gs before hval0 hW _ _ hLd _
  have hval : ∀ (j : Nat) t v, Tryd.f9.params[j]? = some t → args[j]? = some v → Value.okWide Tryd.prog W .any base t v := hval0
  have hW' := hW
  obtain ⟨p, q, hA0, hV, rfl, hfz, hnd⟩ := hW
  have hA : DataW.TrodAll enc Tryd.prog W 0 (fun _ => true) true Tryd.f9.params.toList args.toList ds p := hA0
  have hEt : Et W := handle_of_laid hLd
  rw [Tryd.params9] at hA hval
  obtain ⟨v0, vs0, d0, ds0, p0, q0, hargs, rfl, rfl, h0, r0⟩ := trodAll_cons hA
  obtain ⟨v1, vs1, d1, ds1, p1, q1, rfl, rfl, rfl, h1, r1⟩ := trodAll_cons r0
  obtain ⟨v2, vs2, d2, ds2, p2, q2, rfl, rfl, rfl, h2, r2⟩ := trodAll_cons r1
  obtain ⟨v3, vs3, d3, ds3, p3, q3, rfl, rfl, rfl, h3, r3⟩ := trodAll_cons r2
  obtain ⟨rfl, rfl, rfl⟩ := trodAll_nil r3
  obtain rfl : args = #[v0, v1, v2, v3] := by cases args; simp_all
  obtain ⟨rfl, rfl⟩ := trodVars_none hV
  have k0 := h0
  have lt0 : ∀ x ∈ p0, x.block < W.heap.size := by obtain ⟨m, hm⟩ := k0; exact DataW.trod_lt m _ _ _ hm
  obtain ⟨l0, hl0, rfl⟩ := open_arr_u8 Tryd.underlying41 Tryd.underlying5 (by kernel_rfl) (by kernel_rfl) (by decide) (hval 0 41 v0 rfl rfl)
  have k1 := h1
  have lt1 : ∀ x ∈ p1, x.block < W.heap.size := by obtain ⟨m, hm⟩ := k1; exact DataW.trod_lt m _ _ _ hm
  obtain ⟨a1, rfl, rfl, rfl, w1⟩ := open_string Tryd.underlying9 (hval 1 9 v1 rfl rfl) h1
  have k2 := h2
  have lt2 : ∀ x ∈ p2, x.block < W.heap.size := by obtain ⟨m, hm⟩ := k2; exact DataW.trod_lt m _ _ _ hm
  obtain ⟨a2, rfl, rfl, rfl, w2⟩ := open_string Tryd.underlying9 (hval 2 9 v2 rfl rfl) h2
  have k3 := h3
  have lt3 : ∀ x ∈ p3, x.block < W.heap.size := by obtain ⟨m, hm⟩ := k3; exact DataW.trod_lt m _ _ _ hm
  obtain ⟨a3, rfl, rfl, rfl, w3⟩ := open_string Tryd.underlying9 (hval 3 9 v3 rfl rfl) h3
  clear hA0 hval0
  refine (OffsetBack_any l0 a1 a2 a3 W hEt hl0).mono fun e W' ⟨he, bel⟩ => ?_
  subst he
  exact ⟨_, rfl, _, _, _, [], _, [], hW', trodAll_mk1 (shut_bool Tryd.underlying4 _), (trodAll_cons_mk (Below.trod laidOutAll (by kernel_rfl) (of_decide_eq_true (by kernel_rfl)) k0 bel lt0) (trodAll_cons_mk (Below.trod laidOutAll (by kernel_rfl) (of_decide_eq_true (by kernel_rfl)) k1 bel lt1) (trodAll_cons_mk (Below.trod laidOutAll (by kernel_rfl) (of_decide_eq_true (by kernel_rfl)) k2 bel lt2) (trodAll_cons_mk (Below.trod laidOutAll (by kernel_rfl) (of_decide_eq_true (by kernel_rfl)) k3 bel lt3) trodAll_mk0)))), rfl, bel.frame _, fun h => by cases h⟩
set_option maxHeartbeats 8000000 in
theorem closed : joinedFacts Tryd.checked.prog 9 Tryd.f9 Rows.offsetBackSpec Rows.offsetBackRow = true := by
  unfold joinedFacts
  simp only [Bool.and_eq_true]
  repeat' apply And.intro
  all_goals first | with_reducible exact fct_laid | with_reducible exact fct_maps | as_aux_lemma => kernel_rfl
theorem named_f : Tryd.prog.funcNamed "lockbox/lockboxlaw15.OffsetBack" = some 9 := by kernel_rfl
theorem over : Rows.OffsetBackSaid :=
  OpenClaim.holds_of_wide 9 Tryd.f9 rfl rfl rfl rfl rfl rfl rfl ⟨rfl, rfl, rfl, rfl, rfl⟩ rfl rfl rfl rfl rfl named_f Tryd.func9 closed
    (of_decide_eq_true (by kernel_rfl)) (by unfold Func.isWrapper; first | (rw [if_pos (by decide +kernel)]; kernel_rfl) | (rw [if_neg (by decide +kernel)]; exact ⟨rfl, rfl⟩))
    (fun os started H enc _ => lifted os started H enc)
theorem params_ok (j : Nat) (t : TypeId) (ht : Tryd.f9.params[j]? = some t) : Tryd.prog.wantsStandIn t = false := by
  rw [Tryd.params9] at ht
  have hm : t ∈ #[41, 9, 9, 9] := Array.mem_of_getElem? ht
  simp only [List.mem_toArray, List.mem_cons, List.not_mem_nil, or_false] at hm
  rcases hm with rfl | rfl | rfl | rfl
  · show Tryd.prog.wantsStandIn 41 = false
    kernel_rfl
  · show Tryd.prog.wantsStandIn 9 = false
    kernel_rfl
  · show Tryd.prog.wantsStandIn 9 = false
    kernel_rfl
  · show Tryd.prog.wantsStandIn 9 = false
    kernel_rfl
theorem wf_text : Rows.offsetBackRow.wfByText (OpenSpec.ofChange Rows.offsetBackSpec) = true := by kernel_rfl
theorem goes_no : false = Rows.offsetBackRow.goesBy Tryd.pinned.checked.prog := by kernel_rfl
theorem card_holds : Rows.OffsetBackCardSaid :=
  Claim7.holds_tied_plain_at .later [] [.handle] true (true, "ee270539b4f67e477ad7bbb92b61b104b35191debdef8cb44a0abfd087db6748") true
    over (fun _ h => by cases h) wf_text (fun _ h => by cases h) offsetBack_row_tie rfl ⟨rfl, rfl⟩ fct_main rfl
    (fun f fn hf hfn => by
      obtain rfl : f = 9 := Option.some.inj (named_f.symm.trans hf) |>.symm
      obtain rfl : fn = Tryd.f9 := (Option.some.inj (Tryd.func9.symm.trans hfn)).symm
      exact ⟨fct_looks, fun j t ht => params_ok j t ht⟩)
    goes_no
#print axioms card_holds
end Go.Proofs.YtbbfjlnkhenbiaaDoor.offsetBack
namespace Go.Proofs.YtbbfjlnkhenbiaaDoor
/-- The card, under a short name, for the claim. -/
theorem offsetBack_holds : Rows.OffsetBackCardSaid := offsetBack.card_holds
end Go.Proofs.YtbbfjlnkhenbiaaDoor
