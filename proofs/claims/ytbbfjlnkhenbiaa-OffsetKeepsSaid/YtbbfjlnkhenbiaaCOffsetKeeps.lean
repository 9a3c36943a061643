/- OffsetKeeps, of whatever key, account and two lengths: the key that is handed in stays as it is, and the shorter natural PIN is the beginning of the longer one. No condition. -/
import Derived.Test.YtbbfjlnkhenbiaaKO0
import Derived.Test.YtbbfjlnkhenbiaaKO1
import Derived.Test.YtbbfjlnkhenbiaaKG0
import Derived.Test.YtbbfjlnkhenbiaaKB0
import Derived.WalkKit
import Derived.ProofKit
import Derived.OpenShut
import Derived.ShutString
import Derived.ChangeOld
import Derived.SizedLaws
import Derived.ChangeSlices
import Derived.Test.YtbbfjlnkhenbiaaRows
set_option linter.unusedVariables false
set_option linter.unusedSimpArgs false
namespace Lk
open Go Go.RowKit
theorem padd_back (a b : UInt8) (ha : dv a < 10) (hb : dv b < 10) : padd (padd b a false) b true = a := by
  have key : ∀ x y : Fin 10, (((y.val + x.val) % 10) + (10 - y.val)) % 10 = x.val := by decide
  unfold padd
  simp only [if_true, Bool.false_eq_true, if_false]
  rw [dv_hx _ (by omega), key ⟨dv a, ha⟩ ⟨dv b, hb⟩]
  exact hx_dv a (by omega)
theorem padd_forth (a b : UInt8) (ha : dv a < 10) (hb : dv b < 10) : padd b (padd a b true) false = a := by
  have key : ∀ x y : Fin 10, (y.val + ((x.val + (10 - y.val)) % 10)) % 10 = x.val := by decide
  unfold padd
  simp only [if_true, Bool.false_eq_true, if_false]
  rw [dv_hx _ (by omega), key ⟨dv a, ha⟩ ⟨dv b, hb⟩]
  exact hx_dv a (by omega)
theorem pmod_back (n o : List UInt8) (hl : n.length = o.length) (hn : pf 10 n = -1) (ho : pf 10 o = -1) : pmod (pmod n o false) n true = o := by
  have dn := (pf_neg (show pf 10 n < 0 by omega)).2
  have dx := (pf_neg (show pf 10 o < 0 by omega)).2
  refine same_ext (by rw [pmod_len, pmod_len, hl]) fun i hi => ?_
  rw [pmod_len, pmod_len] at hi
  rw [pmod_get _ _ _ _ (by rw [pmod_len]; exact hi), pmod_get _ _ _ _ hi]
  exact padd_back _ _ (dx i (by omega)) (dn i hi)
theorem pmod_forth (n p : List UInt8) (hl : n.length = p.length) (hn : pf 10 n = -1) (hp : pf 10 p = -1) : pmod n (pmod p n true) false = p := by
  have dn := (pf_neg (show pf 10 n < 0 by omega)).2
  have dp := (pf_neg (show pf 10 p < 0 by omega)).2
  refine same_ext (by rw [pmod_len, hl]) fun i hi => ?_
  rw [pmod_len] at hi
  rw [pmod_get _ _ _ _ hi, pmod_get _ _ _ _ (by omega)]
  exact padd_forth _ _ (dp i (by omega)) (dn i hi)
end Lk
namespace Go.Proofs.Ytbbfjlnkhenbiaa
open Go Go.RowKit Lk
theorem pdat_size (pan : ByteArray) (h : pwrong (sb pan) 13 19 = (0, -1)) : (pdat pan).size = 16 := by
  have hw := pwrong_ok (l := sb pan) (a := 13) (b := 19) (by rw [h])
  rw [sb_len] at hw
  unfold pdat
  rw [ByteArray.size_append, ByteArray.size_extract]
  show min (pan.size - 1) pan.size - (pan.size - 13) + 4 = 16
  omega
theorem pdat_dig (pan : ByteArray) (h : pwrong (sb pan) 13 19 = (0, -1)) : pf 16 (sb (pdat pan)) = -1 := by
  have hw := pwrong_ok (l := sb pan) (a := 13) (b := 19) (by rw [h])
  have hd := all_of_pf (show pf 10 (sb pan) < 0 by omega)
  refine pf_of_all fun c hc => ?_
  have e : sb (pdat pan) = sb (pan.extract (pan.size - 13) (pan.size - 1)) ++ [70, 70, 70, 70] := by
    unfold pdat sb
    rw [ByteArray.data_append, Array.toList_append]
  rw [e, List.mem_append] at hc
  rcases hc with hc | hc
  · rw [sb_extract] at hc
    have := hd c (List.mem_of_mem_drop (List.mem_of_mem_take hc))
    omega
  · have h4 : c = 70 := by simpa using hc
    subst h4
    decide
theorem tab_ok : TAB.size = 16 ∧ pf 10 (sb TAB) = -1 := ⟨rfl, by decide +kernel⟩
end Go.Proofs.Ytbbfjlnkhenbiaa
set_option linter.unusedVariables false
set_option linter.unusedSimpArgs false
namespace Go.Proofs.Ytbbfjlnkhenbiaa
open Go Go.RowKit Lk
set_option maxRecDepth 100000 in
theorem Wrong_more (s : ByteArray) (least most : Nat) (w : World) (h1 : ¬ s.size < least) (h2 : most < s.size) : Calls Try.prog 4 #[.string s, .int .i64 least, .int .i64 most] w fun e w' => e = .returned (.tuple #[.int .i64 2, .int .i64 (-1)]) ∧ w' = w := by
  have i1 : ¬ (s.size : Int) < (least : Int) := by omega
  have i2 : (s.size : Int) > (most : Int) := by omega
  clear h1 h2
  go_enter Try.func4, Try.ntmps4
  go_wp2
  go_ret2
  exact ⟨rfl, rfl⟩
theorem Wrong_all (s : ByteArray) (least most : Nat) (w : World) (hm : most ≤ 1000) (hlm : least ≤ most) : Calls Try.prog 4 #[.string s, .int .i64 least, .int .i64 most] w fun e w' => e = .returned (.tuple #[.int .i64 (pwrong (sb s) least most).1, .int .i64 (pwrong (sb s) least most).2]) ∧ w' = w := by
  by_cases h : most < s.size
  · have e : pwrong (sb s) least most = (2, -1) := by unfold pwrong; rw [sb_len, if_pos (.inr h)]
    rw [e]
    exact Wrong_more s least most w (by omega) h
  · exact Wrong_any s least most w (by omega)
theorem Wrong4 (s : ByteArray) (w : World) : Calls Try.prog 4 #[.string s, .int .i64 4, .int .i64 12] w fun e w' => e = .returned (.tuple #[.int .i64 (pwrong (sb s) 4 12).1, .int .i64 (pwrong (sb s) 4 12).2]) ∧ w' = w := Wrong_all s 4 12 w (by decide) (by decide)
theorem Wrong13 (s : ByteArray) (w : World) : Calls Try.prog 4 #[.string s, .int .i64 13, .int .i64 19] w fun e w' => e = .returned (.tuple #[.int .i64 (pwrong (sb s) 13 19).1, .int .i64 (pwrong (sb s) 13 19).2]) ∧ w' = w := Wrong_all s 13 19 w (by decide) (by decide)
theorem First10 (s : ByteArray) (w : World) (hs : s.size ≤ 1000) : Calls Try.prog 8 #[.string s, .int .i64 10] w fun e w' => e = .returned (.int .i64 (pf 10 (sb s))) ∧ w' = w := First_any s 10 w hs
end Go.Proofs.Ytbbfjlnkhenbiaa
set_option linter.unusedVariables false
set_option linter.unusedSimpArgs false
namespace Lk
open Go Go.RowKit
def TAN : ByteArray := ⟨#[57, 56, 55, 54, 53, 52, 51, 50, 49, 48, 57, 56, 55, 54, 53, 52]⟩
theorem pnatL_take (key : List UInt8) (data table : ByteArray) (m c : Nat) (h : c ≤ m) : (pnatL key data table m).take c = pnatL key data table c := by
  unfold pnatL
  rw [List.take_take, Nat.min_eq_left h]
end Lk
namespace Go.Proofs.Ytbbfjlnkhenbiaa
open Go Go.RowKit Lk
theorem tan_ok : TAN.size = 16 ∧ pf 10 (sb TAN) = -1 := ⟨rfl, by decide +kernel⟩
set_option maxHeartbeats 1600000 in
set_option maxRecDepth 100000 in
theorem OK_bad (k : List UInt8) (pan : ByteArray) (n m : UInt8) (w : World) (hk : k.length = 16) (hw : (pwrong (sb pan) 13 19).1 ≠ 0) :
    Calls Try.prog 3 #[.agg (Bs k), .string pan, .int .u8 (bv n), .int .u8 (bv m)] w fun e w' => e = .returned (.bool true) ∧ Below w.heap.size w w' := by
  have HA := Lib.hid (fun w => awake15_any w)
  have HWr := Lib.hid (fun w => Wrong13 pan w)
  obtain ⟨pw, epw⟩ : ∃ pw, pwrong (sb pan) 13 19 = pw := ⟨_, rfl⟩
  rw [epw] at hw HWr
  obtain ⟨p1, p2⟩ := pw
  simp only at hw HWr
  have i1 : (p1 != 0) = true := by simp; exact hw
  clear hw epw
  go_enter Try.func3, Try.ntmps3
  go_wp2_with (first
    | ((with_reducible show wpList _ _ _ _ _ w); refine box_blk (w := w) rfl 22 _ rfl k rfl ?_; intro w0 hK0 hG0 hz0; have hM0 : Below w.heap.size w w0 := below_none (Below.refl _ _) (Nat.le_refl _) hG0)
    | (go_at_call 4; refine (HWr.out w0).mono ?_; rintro e wq ⟨rfl, hq⟩; have hq1 := hq.symm; subst hq1)
    | (go_at_call 5; (with_reducible show Calls _ _ _ w0 _); refine (HA.out w0).mono ?_; rintro e w1 ⟨rfl, hL1⟩; have hM1 := below_more hM0 hL1 hM0.size)
    | (go_at_call 5; (with_reducible show Calls _ _ _ w1 _); refine (HA.out w1).mono ?_; rintro e w2 ⟨rfl, hL2⟩; have hM2 := below_more hM1 hL2 hM1.size))
  go_ret
  exact ⟨rfl, hM2⟩
set_option maxHeartbeats 3200000 in
set_option maxRecDepth 100000 in
theorem OK_main (k : List UInt8) (pan : ByteArray) (n m : UInt8) (w : World) (hk : k.length = 16) (hw : pwrong (sb pan) 13 19 = (0, -1)) :
    Calls Try.prog 3 #[.agg (Bs k), .string pan, .int .u8 (bv n), .int .u8 (bv m)] w fun e w' => e = .returned (.bool true) ∧ Below w.heap.size w w' := by
  obtain ⟨N, hN⟩ : ∃ N, w.heap.size = N := ⟨_, rfl⟩
  have HN := Lib.hid hN
  have HK := Lib.hid hk
  have HA := Lib.hid (fun w => awake15_any w)
  have HWr := Lib.hid (fun w => Wrong13 pan w)
  rw [hw] at HWr
  have HDa := Lib.hid (fun w => Data_ok pan w hw)
  have hds := pdat_size pan hw
  have hdd := pdat_dig pan hw
  obtain ⟨D, eD⟩ : ∃ D, pdat pan = D := ⟨_, rfl⟩
  rw [eD] at HDa hds hdd
  obtain ⟨a, ha⟩ : ∃ a : Nat, a = 4 + n.toNat % 9 := ⟨_, rfl⟩
  obtain ⟨b, hb⟩ : ∃ b : Nat, b = 4 + m.toNat % 9 := ⟨_, rfl⟩
  have hN9 : 4 + bv n % 9 = (a : Int) := by rw [ha]; unfold bv; omega
  have hM9 : 4 + bv m % 9 = (b : Int) := by rw [hb]; unfold bv; omega
  have HNx := Lib.hid (fun (v : Value) (w1 : World) (h : SlB w1 v k) => by
    have h1 := Natural_any v k D TAN a w1 h
    rw [pnat_key k hk D TAN hds hdd tan_ok.1 tan_ok.2 a (by omega) (by omega)] at h1
    exact h1)
  have HNy := Lib.hid (fun (v : Value) (w1 : World) (h : SlB w1 v k) => by
    have h1 := Natural_any v k D TAN b w1 h
    rw [pnat_key k hk D TAN hds hdd tan_ok.1 tan_ok.2 b (by omega) (by omega)] at h1
    exact h1)
  obtain ⟨X, eX⟩ : ∃ X, ofL (pnatL k D TAN a) = X := ⟨_, rfl⟩
  obtain ⟨Y, eY⟩ : ∃ Y, ofL (pnatL k D TAN b) = Y := ⟨_, rfl⟩
  rw [eX] at HNx
  rw [eY] at HNy
  have hXs : X.size = a := by rw [← eX, ofL_size, pnatL_len _ _ _ _ (by omega)]
  have hYs : Y.size = b := by rw [← eY, ofL_size, pnatL_len _ _ _ _ (by omega)]
  obtain ⟨c, hc⟩ : ∃ c, min a b = c := ⟨_, rfl⟩
  have hmin : min (a : Int) (b : Int) = (c : Int) := by omega
  have hXc : X.extract 0 c = Y.extract 0 c := by
    apply sb_inj
    rw [sb_extract, sb_extract, ← eX, ← eY, sb_ofL, sb_ofL, List.drop_zero, List.drop_zero, Nat.sub_zero, pnatL_take _ _ _ _ _ (by omega), pnatL_take _ _ _ _ _ (by omega)]
  have hcx : c ≤ X.size := by omega
  have hcy : c ≤ Y.size := by omega
  have hcxi : (c : Int) ≤ (X.size : Int) := by omega
  have hcyi : (c : Int) ≤ (Y.size : Int) := by omega
  have hXi : (X.size : Int) = (a : Int) := by omega
  have hYi : (Y.size : Int) = (b : Int) := by omega
  have hq := fun w => run_eql_bs (P := Try.prog) w (t := 22) (e := 5) k k (by kernel_rfl) (by kernel_rfl) (by kernel_rfl) (by kernel_rfl) hk hk
  simp only [beq_self_eq_true] at hq
  have HN9 := Lib.hid hN9
  have HM9 := Lib.hid hM9
  have hn0 := bv_ge n
  have hn1 := bv_lt n
  have hm0 := bv_ge m
  have hm1 := bv_lt m
  clear hk hw hds hdd eD eX eY hXs hYs hc ha hb hN9 hM9
  go_enter Try.func3, Try.ntmps3
  go_wp2_with (first
    | ((with_reducible show wpList _ _ _ _ _ w); refine box_blk (w := w) rfl 22 _ rfl k rfl ?_; intro w0 hK0 hG0 hz0; rw [HN.out] at hK0 hz0 ⊢; have hM0 : Below N w w0 := below_none (Below.refl _ _) (by rw [HN.out]; omega) hG0; clear hG0)
    | (go_at_call 4; refine (HWr.out w0).mono ?_; rintro e wq ⟨rfl, hq⟩; have hq1 := hq.symm; subst hq1)
    | (go_at_call 5; (with_reducible show Calls _ _ _ w0 _); refine (HA.out w0).mono ?_; rintro e w1 ⟨rfl, hL1⟩; have hM1 := below_more hM0 hL1 (by omega); have hK1 := hK0.under hL1; have hz1 := hL1.size; clear hL1)
    | ((with_reducible show wpList _ _ _ _ _ w1); refine load_blk (w := w1) rfl 22 _ rfl N 22 16 5 k (by rfl) hK1 HK.out (by kernel_rfl) (by kernel_rfl) ?_)
    | ((with_reducible show wpList _ _ _ _ _ w1); refine alloc_row (w := w1) rfl 22 rfl (.agg (Bs (List.replicate 16 0))) 16 (fun _ => by kernel_rfl) rfl ?_; intro w2 hR2 _ hG2 hz2; have hK2 := hK1.old hG2 (by simp); have hM2 := below_none hM1 (by omega) hG2; obtain ⟨G, eG⟩ : ∃ G, w1.heap.size = G := ⟨_, rfl⟩; rw [eG] at hR2 ⊢; have hGN : N < G := (by omega); clear hG2)
    | ((with_reducible show wpList _ _ _ _ _ w2); refine store_blk (w := w2) rfl 22 _ _ rfl G 22 16 k (by rfl) (by rfl) hR2 HK.out (by kernel_rfl) ?_; intro w3 hC3 hG3 hz3; have hK3 := hK2.old hG3 (by simp; omega); have hM3 := below_new hM2 (by omega) hG3 (by omega); clear hG3)
    | (go_at_call 6; refine (HDa.out w3).mono ?_; rintro e w4 ⟨rfl, hL4⟩; have hM4 := below_more hM3 hL4 (by omega); have hK4 := hK3.under hL4; have hC4 := hC3.under hL4; have hz4 := hL4.size; clear hL4)
    | (go_at_call 7; (with_reducible show Calls _ _ _ w4 _); rw [HN9.out]; refine (HNx.out _ w4 (hK4.slB (n := 16) HK.out (by decide))).mono ?_; rintro e w5 ⟨v5, rfl, hE5, hL5⟩; obtain rfl := hE5.nil; have hM5 := below_more hM4 hL5 (by omega); have hK5 := hK4.under hL5; have hC5 := hC4.under hL5; have hz5 := hL5.size; clear hL5)
    | (go_at_call 7; (with_reducible show Calls _ _ _ w5 _); rw [HM9.out]; refine (HNy.out _ w5 (hK5.slB (n := 16) HK.out (by decide))).mono ?_; rintro e w6 ⟨v6, rfl, hE6, hL6⟩; obtain rfl := hE6.nil; have hM6 := below_more hM5 hL6 (by omega); have hK6 := hK5.under hL6; have hC6 := hC5.under hL6; have hz6 := hL6.size; clear hL6))
  refine wp_region_quiet_lit (by kernel_rfl) (by kernel_rfl) ?_
  repeat (first | (refine quiet_load (by kernel_rfl) 22 _ rfl N 0 16 5 k (by rfl) (fun w2 hw2 => by obtain ⟨m, rfl⟩ := hw2; exact hK6.rd0) HK.out (by kernel_rfl) (by kernel_rfl) ?_; simp only [Act.put, List.setIfInBounds_toArray, List.set_cons_succ, List.set_cons_zero]) | (refine quiet_load (by kernel_rfl) 22 _ rfl G 0 16 5 k (by rfl) (fun w2 hw2 => by obtain ⟨m, rfl⟩ := hw2; exact hC6.rd0) HK.out (by kernel_rfl) (by kernel_rfl) ?_; simp only [Act.put, List.setIfInBounds_toArray, List.set_cons_succ, List.set_cons_zero]) | go_big_quiet_step (fail))
  refine wpQuiet_nil ?_
  rintro _ ⟨nq, rfl⟩
  have hM7 : Below N w (w6.drewN nq) := below_more hM6 (Drawn.below0 ⟨nq, rfl⟩) (by omega)
  go_wp2
  go_ret
  exact ⟨rfl, by rw [HN.out]; exact hM7⟩
theorem OffsetKeeps_any (k : List UInt8) (pan : ByteArray) (n m : UInt8) (w : World) (hk : k.length = 16) :
    Calls Try.prog 3 #[.agg (Bs k), .string pan, .int .u8 (bv n), .int .u8 (bv m)] w fun e w' => e = .returned (.bool true) ∧ Below w.heap.size w w' := by
  by_cases hw : (pwrong (sb pan) 13 19).1 ≠ 0
  · exact OK_bad k pan n m w hk hw
  · exact OK_main k pan n m w hk (pwrong_ok (l := sb pan) (a := 13) (b := 19) (by simpa using hw)).2.2.2
end Go.Proofs.Ytbbfjlnkhenbiaa
set_option linter.unusedVariables false
set_option linter.unusedSimpArgs false
namespace Lk
open Go Go.RowKit
/-- a slice of whole numbers as it is read -/
def IsRow (k : IntKind) (w : World) (a : Option Addr) (len cap : Nat) (zs : List Int) : Prop :=
  (a = none ∧ len = 0 ∧ cap = 0 ∧ zs = []) ∨
  ∃ x, a = some x ∧ len ≤ cap ∧ cap ≤ maxLen ∧ zs.length = cap ∧ (∀ i, i < zs.length → w.cell? (x.add i) = some (.int k (zs.getD i 0))) ∧ ∀ n ∈ zs, (Lit.int k n).wf = true
theorem u8_of_wf {n : Int} (h : (Lit.int .u8 n).wf = true) : n = bv (UInt8.ofNat n.toNat) := by
  obtain ⟨a, rfl⟩ := open_u8 h
  unfold bv
  simp
theorem slB_of_row {w : World} {a : Option Addr} {len cap : Nat} {zs : List Int} (h : IsRow .u8 w a len cap zs) : ∃ l : List UInt8, l.length = len ∧ SlB w (.slice a len cap) l := by
  rcases h with ⟨rfl, rfl, rfl, rfl⟩ | ⟨x, rfl, h1, h2, h3, h4, h5⟩
  · exact ⟨[], rfl, none, 0, rfl, fun _ => rfl, Nat.le_refl _, Nat.zero_le _, fun h => by omega⟩
  · have hl : ((zs.take len).map fun z => UInt8.ofNat z.toNat).length = len := by simp; omega
    refine ⟨(zs.take len).map fun z => UInt8.ofNat z.toNat, hl, some x, cap, by rw [hl], fun h => (by cases h), by rw [hl]; exact h1, h2, fun hc => ?_⟩
    have hx : x.spot = none := by
      have := h4 0 (by omega)
      have e : x.add 0 = x := by simp [Addr.add]
      rw [e] at this
      unfold World.cell? at this
      split at this
      · split at this
        · cases this
        · rename_i hs; simpa using hs
      · cases this
    obtain ⟨g, o, s⟩ := x
    cases hx
    refine ⟨g, o, rfl, fun k hk => ?_⟩
    rw [hl] at hk
    have hc := h4 k (by omega)
    have ea : (⟨g, o, none⟩ : Addr).add k = ⟨g, o + k, none⟩ := by unfold Addr.add; split <;> simp_all
    rw [ea] at hc
    rw [hc]
    have hm : zs.getD k 0 ∈ zs := by
      have : k < zs.length := by omega
      simp [this]
    have := u8_of_wf (h5 _ hm)
    have e : g8 ((zs.take len).map fun z => UInt8.ofNat z.toNat) k = UInt8.ofNat (zs.getD k 0).toNat := by
      unfold g8
      have : k < zs.length := by omega
      simp [List.getElem?_take, hk, this]
    rw [e, ← this]
section
variable {P : Program} {H : Type} {enc : TypeId × Value → H}
theorem open_slice_u8 {t e : TypeId} {W : World} {a : Option Addr} {len cap : Nat} {d : DataW H} {ps : List MemPlace} (ht : P.underlying t = some (.slice e)) (he : P.underlying e = some (.int .u8)) (hc : P.cellsOf e = 1)
    (h : DataW.Trod enc P W 0 (fun _ => true) true t (.slice a len cap) d ps) : ∃ l : List UInt8, l.length = len ∧ SlB W (.slice a len cap) l := by
  obtain ⟨zs, hz⟩ : ∃ zs, IsRow .u8 W a len cap zs := by
    obtain ⟨fuel, hf⟩ := h
    rcases Go.ChangeShapes.open_ints ht he hc hf with ⟨hcs, _⟩ | ⟨x, l, c, zs, hcs, _, hl, hm, hz, _, hcell, hwz⟩
    · simp [Value.cells] at hcs
      obtain ⟨rfl, rfl, rfl⟩ := hcs
      exact ⟨[], .inl ⟨rfl, rfl, rfl, rfl⟩⟩
    · simp [Value.cells] at hcs
      obtain ⟨rfl, rfl, rfl⟩ := hcs
      exact ⟨zs, .inr ⟨_, rfl, hl, hm, by simpa using hz, hcell, hwz⟩⟩
  exact slB_of_row hz
/-- an array of bytes -/
theorem open_arr_u8 {t e n : Nat} {W : World} {r : Reach} {base : Nat} {v : Value} (ht : P.underlying t = some (.array n e)) (he : P.underlying e = some (.int .u8)) (hc : P.cellsOf t = n) (hct : P.cellTypes P.depth t = some (List.replicate n e)) (hn : 0 < n)
    (h : Value.okWide P W r base t v) : ∃ l : List UInt8, l.length = n ∧ v = .agg (Bs l) := by
  simp only [Value.okWide, ht] at h
  obtain ⟨cs, rfl, hsz, ts, hts, _, hcell⟩ := h
  rw [hct] at hts
  cases hts
  rw [hc] at hsz
  refine ⟨cs.toList.map fun v => match v with | .int _ z => UInt8.ofNat z.toNat | _ => 0, by simp [hsz], ?_⟩
  congr 1
  apply Array.ext
  · simp [Bs]
  · intro i h1 h2
    obtain ⟨u, hu, hok⟩ := hcell i cs[i] (by simp [h1])
    have hue : u = e := by
      rw [List.getElem?_replicate] at hu
      split at hu
      · cases hu; rfl
      · cases hu
    subst hue
    simp only [Cell.okWide, he] at hok
    simp only [Bs, List.map_map, List.getElem_toArray, List.getElem_map, Function.comp_apply, Array.getElem_toList]
    cases hv : cs[i] with
    | int k z =>
      rw [hv] at hok
      simp only [Cell.ok, he] at hok
      obtain ⟨rfl, hw⟩ := hok
      have hw' : (Lit.int .u8 z).wf = true := by
        unfold Lit.wf
        rw [Bool.and_eq_true]
        exact ⟨decide_eq_true hw.1, decide_eq_true hw.2⟩
      simp only [← u8_of_wf hw']
    | _ => rw [hv] at hok; simp [Cell.ok, he] at hok
end
end Lk
namespace Go.Proofs.Ytbbfjlnkhenbiaa.offsetKeeps
open Go.ChangeShapes Go.WideShapes Go.ChangeAt Go.RowKit Lk
open Go.ChangeMaps (open_string shut_string)
set_option linter.unusedVariables false
set_option linter.unusedSimpArgs false
theorem own : ownKnob Try.prog.godebug = none := by kernel_rfl
theorem laidOut : laidOutB Try.prog = true := by kernel_rfl
set_option maxRecDepth 100000 in
theorem lifted (os : Os) (started : os.Started) (H : Type) (enc : TypeId × Value → H) :
    ReturnsInHanded {} Try.checked os 3 .any (Rows.offsetKeepsSpec.pre6 enc Try.prog Try.f3 Rows.offsetKeepsRow.domain false) (Rows.offsetKeepsSpec.post enc Try.prog Try.f3 false true false false) := by
  refine returnsInHanded_of_change_sized (C := Try.checked) own started (by kernel_rfl) Try.func3
    (ChangeSpec.witness6 (enc := enc) (C := Try.checked) false ⟨#[], #[.agg #[.int .u8 0, .int .u8 0, .int .u8 0, .int .u8 0, .int .u8 0, .int .u8 0, .int .u8 0, .int .u8 0, .int .u8 0, .int .u8 0, .int .u8 0, .int .u8 0, .int .u8 0, .int .u8 0, .int .u8 0, .int .u8 0], .string ByteArray.empty, .int .u8 0, .int .u8 0], []⟩ 8 (by kernel_rfl) (by kernel_rfl) (by kernel_rfl) (by kernel_rfl)) ?_
  intro W base args ds gs before hval0 hW hcnd hsz0 _
  have hsz : (DataW.weightsEach Try.prog (Try.f3.params.toList ++ Rows.offsetKeepsSpec.plain.varTypes Try.prog) (ds ++ gs)).all (· ≤ reachBytes) = true := hsz0
  have hval : ∀ (j : Nat) t v, Try.f3.params[j]? = some t → args[j]? = some v → Value.okWide Try.prog W .any base t v := hval0
  have hW' := hW
  obtain ⟨p, q, hA0, hV, rfl, hfz, hnd⟩ := hW
  have hA : DataW.TrodAll enc Try.prog W 0 (fun _ => true) true Try.f3.params.toList args.toList ds p := hA0
  rw [Try.params3] at hA hval hsz
  obtain ⟨v0, vs0, d0, ds0, p0, q0, hargs, rfl, rfl, h0, r0⟩ := trodAll_cons hA
  obtain ⟨v1, vs1, d1, ds1, p1, q1, rfl, rfl, rfl, h1, r1⟩ := trodAll_cons r0
  obtain ⟨v2, vs2, d2, ds2, p2, q2, rfl, rfl, rfl, h2, r2⟩ := trodAll_cons r1
  obtain ⟨v3, vs3, d3, ds3, p3, q3, rfl, rfl, rfl, h3, r3⟩ := trodAll_cons r2
  obtain ⟨rfl, rfl, rfl⟩ := trodAll_nil r3
  obtain rfl : args = #[v0, v1, v2, v3] := by cases args; simp_all
  obtain ⟨rfl, rfl⟩ := trodVars_none hV
  have k0 := h0
  have lt0 : ∀ x ∈ p0, x.block < W.heap.size := by obtain ⟨m, hm⟩ := k0; exact DataW.trod_lt m _ _ _ hm
  obtain ⟨l0, hl0, rfl⟩ := open_arr_u8 Try.underlying22 Try.underlying5 (by kernel_rfl) (by kernel_rfl) (by decide) (hval 0 22 v0 rfl rfl)
  have k1 := h1
  have lt1 : ∀ x ∈ p1, x.block < W.heap.size := by obtain ⟨m, hm⟩ := k1; exact DataW.trod_lt m _ _ _ hm
  obtain ⟨a1, rfl, rfl, rfl, w1⟩ := open_string Try.underlying9 (hval 1 9 v1 rfl rfl) h1
  have k2 := h2
  have lt2 : ∀ x ∈ p2, x.block < W.heap.size := by obtain ⟨m, hm⟩ := k2; exact DataW.trod_lt m _ _ _ hm
  obtain ⟨a2, rfl, rfl, rfl, w2⟩ := open_int Try.underlying5 (hval 2 5 v2 rfl rfl) h2
  obtain ⟨b2, rfl⟩ := Lk.open_u8 w2
  have k3 := h3
  have lt3 : ∀ x ∈ p3, x.block < W.heap.size := by obtain ⟨m, hm⟩ := k3; exact DataW.trod_lt m _ _ _ hm
  obtain ⟨a3, rfl, rfl, rfl, w3⟩ := open_int Try.underlying5 (hval 3 5 v3 rfl rfl) h3
  obtain ⟨b3, rfl⟩ := Lk.open_u8 w3
  clear hA0 hval0 hsz0 hsz
  refine (OffsetKeeps_any l0 a1 b2 b3 W hl0).mono fun e W' ⟨he, bel⟩ => ?_
  subst he
  exact ⟨_, rfl, _, _, _, [], _, [], hW', trodAll_mk1 (shut_bool Try.underlying4 _), (trodAll_cons_mk (Below.trod laidOut (by kernel_rfl) (of_decide_eq_true (by kernel_rfl)) k0 bel lt0) (trodAll_cons_mk (Below.trod laidOut (by kernel_rfl) (of_decide_eq_true (by kernel_rfl)) k1 bel lt1) (trodAll_cons_mk (Below.trod laidOut (by kernel_rfl) (of_decide_eq_true (by kernel_rfl)) k2 bel lt2) (trodAll_cons_mk (Below.trod laidOut (by kernel_rfl) (of_decide_eq_true (by kernel_rfl)) k3 bel lt3) trodAll_mk0)))), rfl, bel.frame _, fun h => by cases h⟩
theorem over : Rows.offsetKeepsRow.holds Try.pinned (OpenSpec.ofChange Rows.offsetKeepsSpec) :=
  OpenClaim.holds_of_wide 3 Try.f3 rfl rfl rfl rfl rfl rfl rfl ⟨rfl, rfl, rfl, rfl, rfl⟩ rfl rfl rfl rfl rfl (by kernel_rfl) Try.func3 (by kernel_rfl)
    (of_decide_eq_true (by kernel_rfl)) (by unfold Func.isWrapper; first | (rw [if_pos (by decide +kernel)]; kernel_rfl) | (rw [if_neg (by decide +kernel)]; exact ⟨rfl, rfl⟩))
    (fun os started H enc _ => lifted os started H enc)
theorem proved : Rows.OffsetKeepsSaid := over
#print axioms proved
end Go.Proofs.Ytbbfjlnkhenbiaa.offsetKeeps
namespace Go.Proofs.Ytbbfjlnkhenbiaa
/-- The row, under a short name, for the claim. -/
theorem offsetKeeps_holds : Rows.OffsetKeepsSaid := offsetKeeps.proved
end Go.Proofs.Ytbbfjlnkhenbiaa
