/- For all keys the law PartKeeps of the layer of keys' parts returns true (what is handed in stays, what is answered is new memory); its arguments read as they did; the variable errors.errorType starts as the program lays it. -/
import Derived.Test.YtjbdhnmkeaogcaaDoorKB7
import Derived.Test.YtjbdhnmkeaogcaaDoorKB6
import Derived.Test.YtjbdhnmkeaogcaaDoorKB0
import Derived.WalkKit
import Derived.ProofKit
import Derived.OpenShut
import Derived.ShutString
import Derived.ChangeOld
import Derived.SizedLaws
import Derived.ChangeSlices
import Derived.Test.YtjbdhnmkeaogcaaDoorRows
import Derived.ChangeSame
import Derived.ChangeVars
import Derived.JoinedOf
import Derived.RowKit
import Derived.RowKitTokens
import Derived.LaidLaws
import Derived.LaidHandle
import Derived.Stop.Joined
import Derived.SevenTiedAt
import Derived.Test.YtjbdhnmkeaogcaaDoorCards
import Derived.Test.YtjbdhnmkeaogcaaDoorTie
set_option linter.unusedVariables false
set_option linter.unusedSimpArgs false
namespace Go.Proofs.YtjbdhnmkeaogcaaDoor
open Go.RowKit Lk
theorem bad_16 (a b : List UInt8) (ha : a.length = 16) (hb : b.length = 16) : pbad 1 [a, b] = none := by
  unfold pbad badFrom badFrom badFrom gl
  simp [ha, hb, psz]
set_option maxHeartbeats 6400000 in
set_option maxRecDepth 100000 in
theorem PartKeeps_any (a b : List UInt8) (w : World) (hE : Et w) (ha : a.length = 16) (hb : b.length = 16) : Calls Tryd.prog 20 #[.agg (Bs a), .agg (Bs b)] w fun e w' => e = .returned (.bool true) ∧ Below w.heap.size w w' := by
  obtain ⟨N, hN⟩ : ∃ N, w.heap.size = N := ⟨_, rfl⟩
  have HN := Lib.hid hN
  have HA := Lib.hid ha
  have HB := Lib.hid hb
  have HE := Lib.hid hE
  have HBD := Lib.hid (bad_16 a b ha hb)
  have hq := fun w => run_eql_bs (P := Tryd.prog) w (t := 41) (e := 5) a a (by kernel_rfl) (by kernel_rfl) (by kernel_rfl) (by kernel_rfl) ha ha
  simp only [beq_self_eq_true] at hq
  clear ha hb hE
  have hM0 : Below N w w := Below.refl _ _
  have hs0 : N ≤ w.heap.size := by omega
  have E_0 := Lib.hid (HE.out)
  go_enter Tryd.func20, Tryd.ntmps20
  go_wp2_with (first
    | ((with_reducible show wpList _ _ _ _ _ w); refine box_blk (w := w) rfl 41 _ rfl a rfl ?_; intro u0 hA0 hG0 hz0; rw [hN] at hA0 hz0 ⊢)
    | ((with_reducible show wpList _ _ _ _ _ u0); refine box_blk (w := u0) rfl 41 _ rfl b rfl ?_; intro u1 hB1 hG1 hz1; rw [hz0] at hB1 hz1 ⊢; have hA1 := hA0.old hG1 (by simp))
    | ((with_reducible show wpList _ _ _ _ _ u1); refine load_blk (w := u1) rfl 41 _ rfl N 41 16 5 a (by rfl) hA1 HA.out (by kernel_rfl) (by kernel_rfl) ?_)
    | ((with_reducible show wpList _ _ _ _ _ u1); refine alloc_row (w := u1) rfl 41 rfl (.agg (Bs (List.replicate 16 0))) 16 (fun _ => by kernel_rfl) rfl ?_; intro u2 hR2 _ hG2 hz2; rw [hz1] at hR2 hz2 ⊢; have hA2 := hA1.old hG2 (by simp); have hB2 := hB1.old hG2 (by simp))
    | ((with_reducible show wpList _ _ _ _ _ u2); refine store_blk (w := u2) rfl 41 _ _ rfl (N + 1 + 1) 41 16 a (by rfl) (by rfl) hR2 HA.out (by kernel_rfl) ?_; intro u3 hC3 hG3 hz3; have hA3 := hA2.old hG3 (by simp; omega); have hB3 := hB2.old hG3 (by simp)))
  have hL : Below w.heap.size w u3 := below_new (below_none (below_none (below_none (Below.refl _ _) (Nat.le_refl _) hG0) (by omega) hG1) (by omega) hG2) (by omega) hG3 (by omega)
  clear hG0 hG1 hG2 hG3 hA0 hA1 hA2 hB1 hB2 hR2 hz0 hz1 hz2 hz3
  have hM1 : Below N w u3 := below_more hM0 hL hs0
  have hs1 : N ≤ u3.heap.size := Nat.le_trans hs0 (hL).size
  have E_1 := Lib.hid (E_0.out.below hL)
  clear E_0
  clear hM0 hs0
  clear hL
  have A_1 := Lib.hid (hA3)
  have B_1 := Lib.hid (hB3)
  have C_1 := Lib.hid (hC3)
  clear hA3 hB3 hC3
  have SMa := Lib.hid hM1
  have SSa := Lib.hid hs1
  have SaE := Lib.hid E_1.out
  have SaA := Lib.hid A_1.out
  have SaB := Lib.hid B_1.out
  have SaC := Lib.hid C_1.out
  have Ma_1 := Lib.hid (Below.refl u3.heap.size u3)
  refine (Odd_any _ a u3 (A_1.out.slB (n := 16) HA.out (by decide)) (by rw [HA.out]; decide)).mono ?_
  rintro e w2 ⟨v1, rfl, hO, hL⟩
  have hlen : (podds a).length = 16 := by rw [podds_len]; exact HA.out
  obtain ⟨gX, cX, egX, hgX, _, _, _, hcX⟩ := hO.form (by rw [hlen]; decide)
  rw [hlen] at egX hcX
  subst egX
  have hcX2 := own_cap hO
  have HLX := Lib.hid hlen
  have hM2 : Below N w w2 := below_more hM1 hL hs1
  have hs2 : N ≤ w2.heap.size := Nat.le_trans hs1 (hL).size
  have E_2 := Lib.hid (E_1.out.below hL)
  clear E_1
  have A_2 := Lib.hid (A_1.out.under hL)
  clear A_1
  have B_2 := Lib.hid (B_1.out.under hL)
  clear B_1
  have C_2 := Lib.hid (C_1.out.under hL)
  clear C_1
  have Ma_2 := Lib.hid (below_more Ma_1.out hL Ma_1.out.size)
  clear Ma_1
  clear hM1 hs1
  have X_2 := Lib.hid (hO)
  clear hO hL hlen
  have HOx := Lib.hid X_2.out
  have HMx := Lib.hid Ma_2.out
  go_wp2_with fail
  go_loopw [7] (fun i wr => ∃ (k : Nat) (xs : List UInt8), k ≤ 16 ∧ i = .int .i64 k ∧ Hid (xs.length = 16) ∧ Own wr u3.heap.size (.slice (some ⟨gX, 0, none⟩) 16 cX) xs ∧ Below u3.heap.size u3 wr) (fun i _ => 16 - (intOf i).toNat)
  case atStart => exact ⟨0, (podds a), by omega, rfl, HLX, HOx.out, HMx.out⟩
  case round =>
    clear HOx HMx
    obtain ⟨k, xs, hk, rfl, hxl, hO, hW⟩ := hrel
    by_cases hlt : k < 16
    · have HLT := Lib.hid hlt
      have cc := hO.cell k (by rw [hxl.out]; exact hlt)
      have fc := hO.free k
      have e1 : Go.bits .xor .u8 (bv (g8 xs k)) 255 = bv (g8 xs k ^^^ 255) := bv_xor _ 0xff
      have HO := Lib.hid hO
      have HW := Lib.hid hW
      clear hO hW
      go_wp2
      have hG3 : wr.grownBy (wr.setCell ⟨gX, k, none⟩ (.int .u8 (bv (g8 xs k ^^^ 255)))) (some gX) := grown_set (grown_refl _ _) _ _
      go_roundw
      case rel =>
        have h1 := HO.out
        rw [← hxl.out] at h1
        have h3 := h1.stored k (g8 xs k ^^^ 255)
        rw [hxl.out] at h3
        exact ⟨k + 1, _, HLT.out, by go_num, Lib.hid (by rw [List.length_set]; exact hxl.out), h3, below_new HW.out HW.out.size hG3 (HO.out.lt gX rfl).1⟩
      case measure => have := HLT.out; simp [intOf]; omega
    have HW := Lib.hid hW
    clear hO hW hxl
    have hM3 : Below N w wr := below_more SMa.out HW.out SSa.out
    have hs3 : N ≤ wr.heap.size := Nat.le_trans SSa.out (HW.out).size
    have E_3 := Lib.hid (SaE.out.below HW.out)
    have A_3 := Lib.hid (SaA.out.under HW.out)
    have B_3 := Lib.hid (SaB.out.under HW.out)
    have C_3 := Lib.hid (SaC.out.under HW.out)
    clear HW
    obtain ⟨v1, ev⟩ : ∃ v1 : World, v1 = wr := ⟨_, rfl⟩
    subst ev
    have SMb := Lib.hid hM3
    have SSb := Lib.hid hs3
    have SbE := Lib.hid E_3.out
    have SbA := Lib.hid A_3.out
    have SbB := Lib.hid B_3.out
    have SbC := Lib.hid C_3.out
    have Mb_3 := Lib.hid (Below.refl v1.heap.size v1)
    go_wp2_with fail
    go_region_held3 (fun _ => True) (trivial) ((go_at_call 59; refine (Join_any 1 _ [a, b] _ (.inl rfl) (by simp) (by simp) (slSl_two (w := v1.drewN 1) ((A_3.out.slB (n := 16) HA.out (by decide)).drewN 1) ((B_3.out.slB (n := 16) HB.out (by decide)).drewN 1)) (fun k => by rcases k with _ | _ | k <;> simp [gl, HA.out, HB.out])).mono ?_; rintro e x1 ⟨y, u, rfl, hJ, hLx⟩))
    unfold JoinR at hJ
    rw [HBD.out] at hJ
    obtain ⟨rfl, hO⟩ := hJ
    have hlen : (pjoin 1 [a, b]).length = 16 := by show (pxor a b).length = 16; rw [pxor_len]; exact HA.out
    obtain ⟨pj, epj⟩ : ∃ pj, pjoin 1 [a, b] = pj := ⟨_, rfl⟩
    rw [epj] at hO hlen
    have hO2 : Own x1 v1.heap.size y pj := hO.lower (by simp)
    obtain ⟨gY, cY, egY, hgY, _, _, _, hcY⟩ := hO2.form (by rw [hlen]; decide)
    rw [hlen] at egY hcY
    subst egY
    have hcY2 := own_cap hO2
    have HLY := Lib.hid hlen
    have hL : Below v1.heap.size v1 x1 := below_more (below_alloc (Drawn.below0 ⟨1, rfl⟩) (Nat.le_refl _) _) hLx (by simp)
    clear hO hLx epj hlen
    have hM4 : Below N w x1 := below_more hM3 hL hs3
    have hs4 : N ≤ x1.heap.size := Nat.le_trans hs3 (hL).size
    have E_4 := Lib.hid (E_3.out.below hL)
    clear E_3
    have A_4 := Lib.hid (A_3.out.under hL)
    clear A_3
    have B_4 := Lib.hid (B_3.out.under hL)
    clear B_3
    have C_4 := Lib.hid (C_3.out.under hL)
    clear C_3
    have Mb_4 := Lib.hid (below_more Mb_3.out hL Mb_3.out.size)
    clear Mb_3
    clear hM3 hs3
    have Y_4 := Lib.hid (hO2)
    clear hO2 hL
    have HOx := Lib.hid Y_4.out
    have HMx := Lib.hid Mb_4.out
    go_wp2_with fail
    go_loopw [10] (fun i wr => ∃ (k : Nat) (xs : List UInt8), k ≤ 16 ∧ i = .int .i64 k ∧ Hid (xs.length = 16) ∧ Own wr v1.heap.size (.slice (some ⟨gY, 0, none⟩) 16 cY) xs ∧ Below v1.heap.size v1 wr) (fun i _ => 16 - (intOf i).toNat)
    case atStart => exact ⟨0, pj, by omega, rfl, HLY, HOx.out, HMx.out⟩
    case round =>
      clear HOx HMx
      obtain ⟨k, xs, hk, rfl, hxl, hO, hW⟩ := hrel
      by_cases hlt : k < 16
      · have HLT := Lib.hid hlt
        have cc := hO.cell k (by rw [hxl.out]; exact hlt)
        have fc := hO.free k
        have e1 : Go.bits .xor .u8 (bv (g8 xs k)) 255 = bv (g8 xs k ^^^ 255) := bv_xor _ 0xff
        have HO := Lib.hid hO
        have HW := Lib.hid hW
        clear hO hW
        go_wp2
        have hG3 : wr.grownBy (wr.setCell ⟨gY, k, none⟩ (.int .u8 (bv (g8 xs k ^^^ 255)))) (some gY) := grown_set (grown_refl _ _) _ _
        go_roundw
        case rel =>
          have h1 := HO.out
          rw [← hxl.out] at h1
          have h3 := h1.stored k (g8 xs k ^^^ 255)
          rw [hxl.out] at h3
          exact ⟨k + 1, _, HLT.out, by go_num, Lib.hid (by rw [List.length_set]; exact hxl.out), h3, below_new HW.out HW.out.size hG3 (HO.out.lt gY rfl).1⟩
        case measure => have := HLT.out; simp [intOf]; omega
      have HW := Lib.hid hW
      clear hO hW hxl
      have hM5 : Below N w wr := below_more SMb.out HW.out SSb.out
      have hs5 : N ≤ wr.heap.size := Nat.le_trans SSb.out (HW.out).size
      have E_5 := Lib.hid (SbE.out.below HW.out)
      have A_5 := Lib.hid (SbA.out.under HW.out)
      have B_5 := Lib.hid (SbB.out.under HW.out)
      have C_5 := Lib.hid (SbC.out.under HW.out)
      clear HW
      go_wp2_with fail
      refine (Value_aes _ a wr (A_5.out.slB (n := 16) HA.out (by decide)) (by rw [HA.out]; decide)).mono ?_
      rintro e w6 ⟨v2, rfl, hO, hL⟩
      have hM6 : Below N w w6 := below_more hM5 hL hs5
      have hs6 : N ≤ w6.heap.size := Nat.le_trans hs5 (hL).size
      have E_6 := Lib.hid (E_5.out.below hL)
      clear E_5
      have A_6 := Lib.hid (A_5.out.under hL)
      clear A_5
      have B_6 := Lib.hid (B_5.out.under hL)
      clear B_5
      have C_6 := Lib.hid (C_5.out.under hL)
      clear C_5
      clear hM5 hs5
      clear hO hL
      go_wp2_with fail
      refine (awake09 w6 E_6.out).mono ?_
      rintro e w7 ⟨rfl, hL⟩
      have hM7 : Below N w w7 := below_more hM6 hL hs6
      have hs7 : N ≤ w7.heap.size := Nat.le_trans hs6 (hL).size
      have E_7 := Lib.hid (E_6.out.below hL)
      clear E_6
      have A_7 := Lib.hid (A_6.out.under hL)
      clear A_6
      have B_7 := Lib.hid (B_6.out.under hL)
      clear B_6
      have C_7 := Lib.hid (C_6.out.under hL)
      clear C_6
      clear hM6 hs6
      clear hL
      go_wp2_with (first
        | (refine load_blk_g (w := w7) (by rfl) 41 _ rfl N 41 16 5 a (by rfl) A_7.out HA.out (by kernel_rfl) (by kernel_rfl) ?_)
        | (refine load_blk_g (w := w7) (by rfl) 41 _ rfl (N + 1 + 1) 41 16 5 a (by rfl) C_7.out HA.out (by kernel_rfl) (by kernel_rfl) ?_))
      go_ret
      exact ⟨rfl, by rw [HN.out]; exact hM7⟩
end Go.Proofs.YtjbdhnmkeaogcaaDoor
set_option linter.unusedVariables false
set_option linter.unusedSimpArgs false
namespace Lk
open Go Go.RowKit
/-- a slice of whole numbers as it is read -/
def IsRow (k : IntKind) (w : World) (a : Option Addr) (len cap : Nat) (zs : List Int) : Prop :=
  (a = none ∧ len = 0 ∧ cap = 0 ∧ zs = []) ∨
  ∃ x, a = some x ∧ len ≤ cap ∧ cap ≤ maxLen ∧ zs.length = cap ∧ (∀ i, i < zs.length → w.cell? (x.add i) = some (.int k (zs.getD i 0))) ∧ ∀ n ∈ zs, (Lit.int k n).wf = true
theorem u8_of_wf {n : Int} (h : (Lit.int .u8 n).wf = true) : n = bv (UInt8.ofNat n.toNat) := by
  obtain ⟨a, rfl⟩ := open_u8 h
  unfold bv
  simp
theorem slB_of_row {w : World} {a : Option Addr} {len cap : Nat} {zs : List Int} (h : IsRow .u8 w a len cap zs) : ∃ l : List UInt8, l.length = len ∧ SlB w (.slice a len cap) l := by
  rcases h with ⟨rfl, rfl, rfl, rfl⟩ | ⟨x, rfl, h1, h2, h3, h4, h5⟩
  · exact ⟨[], rfl, none, 0, rfl, fun _ => rfl, Nat.le_refl _, Nat.zero_le _, fun h => by omega⟩
  · have hl : ((zs.take len).map fun z => UInt8.ofNat z.toNat).length = len := by simp; omega
    refine ⟨(zs.take len).map fun z => UInt8.ofNat z.toNat, hl, some x, cap, by rw [hl], fun h => (by cases h), by rw [hl]; exact h1, h2, fun hc => ?_⟩
    have hx : x.spot = none := by
      have := h4 0 (by omega)
      have e : x.add 0 = x := by simp [Addr.add]
      rw [e] at this
      unfold World.cell? at this
      split at this
      · split at this
        · cases this
        · rename_i hs; simpa using hs
      · cases this
    obtain ⟨g, o, s⟩ := x
    cases hx
    refine ⟨g, o, rfl, fun k hk => ?_⟩
    rw [hl] at hk
    have hc := h4 k (by omega)
    have ea : (⟨g, o, none⟩ : Addr).add k = ⟨g, o + k, none⟩ := by unfold Addr.add; split <;> simp_all
    rw [ea] at hc
    rw [hc]
    have hm : zs.getD k 0 ∈ zs := by
      have : k < zs.length := by omega
      simp [this]
    have := u8_of_wf (h5 _ hm)
    have e : g8 ((zs.take len).map fun z => UInt8.ofNat z.toNat) k = UInt8.ofNat (zs.getD k 0).toNat := by
      unfold g8
      have : k < zs.length := by omega
      simp [List.getElem?_take, hk, this]
    rw [e, ← this]
section
variable {P : Program} {H : Type} {enc : TypeId × Value → H}
theorem open_slice_u8 {t e : TypeId} {W : World} {a : Option Addr} {len cap : Nat} {d : DataW H} {ps : List MemPlace} (ht : P.underlying t = some (.slice e)) (he : P.underlying e = some (.int .u8)) (hc : P.cellsOf e = 1)
    (h : DataW.Trod enc P W 0 (fun _ => true) true t (.slice a len cap) d ps) : ∃ l : List UInt8, l.length = len ∧ SlB W (.slice a len cap) l := by
  obtain ⟨zs, hz⟩ : ∃ zs, IsRow .u8 W a len cap zs := by
    obtain ⟨fuel, hf⟩ := h
    rcases Go.ChangeShapes.open_ints ht he hc hf with ⟨hcs, _⟩ | ⟨x, l, c, zs, hcs, _, hl, hm, hz, _, hcell, hwz⟩
    · simp [Value.cells] at hcs
      obtain ⟨rfl, rfl, rfl⟩ := hcs
      exact ⟨[], .inl ⟨rfl, rfl, rfl, rfl⟩⟩
    · simp [Value.cells] at hcs
      obtain ⟨rfl, rfl, rfl⟩ := hcs
      exact ⟨zs, .inr ⟨_, rfl, hl, hm, by simpa using hz, hcell, hwz⟩⟩
  exact slB_of_row hz
/-- an array of bytes -/
theorem open_arr_u8 {t e n : Nat} {W : World} {r : Reach} {base : Nat} {v : Value} (ht : P.underlying t = some (.array n e)) (he : P.underlying e = some (.int .u8)) (hc : P.cellsOf t = n) (hct : P.cellTypes P.depth t = some (List.replicate n e)) (hn : 0 < n)
    (h : Value.okWide P W r base t v) : ∃ l : List UInt8, l.length = n ∧ v = .agg (Bs l) := by
  simp only [Value.okWide, ht] at h
  obtain ⟨cs, rfl, hsz, ts, hts, _, hcell⟩ := h
  rw [hct] at hts
  cases hts
  rw [hc] at hsz
  refine ⟨cs.toList.map fun v => match v with | .int _ z => UInt8.ofNat z.toNat | _ => 0, by simp [hsz], ?_⟩
  congr 1
  apply Array.ext
  · simp [Bs]
  · intro i h1 h2
    obtain ⟨u, hu, hok⟩ := hcell i cs[i] (by simp [h1])
    have hue : u = e := by
      rw [List.getElem?_replicate] at hu
      split at hu
      · cases hu; rfl
      · cases hu
    subst hue
    simp only [Cell.okWide, he] at hok
    simp only [Bs, List.map_map, List.getElem_toArray, List.getElem_map, Function.comp_apply, Array.getElem_toList]
    cases hv : cs[i] with
    | int k z =>
      rw [hv] at hok
      simp only [Cell.ok, he] at hok
      obtain ⟨rfl, hw⟩ := hok
      have hw' : (Lit.int .u8 z).wf = true := by
        unfold Lit.wf
        rw [Bool.and_eq_true]
        exact ⟨decide_eq_true hw.1, decide_eq_true hw.2⟩
      simp only [← u8_of_wf hw']
    | _ => rw [hv] at hok; simp [Cell.ok, he] at hok
end
end Lk
set_option linter.unusedVariables false
namespace Go.Proofs.YtjbdhnmkeaogcaaDoor
open Go.ChangeShapes Go.WideShapes Go.RowKit
theorem ownKnobNone : ownKnob Tryd.prog.godebug = none := by kernel_rfl
theorem laidOutAll : laidOutB Tryd.prog = true := by kernel_rfl
theorem fct_laid : laidOutB Tryd.checked.prog = true := by kernel_rfl
theorem fct_maps : mapsRowed Tryd.checked.prog = true := by kernel_rfl
theorem fct_main : Tryd.pinned.checked.prog.mainIs = some (true, "8650a698aaa6e7940681561f98863e190d5ec889b7f6ab40edacde75e00aa3ea".toList) := by kernel_rfl
theorem fct_looks : true = Tryd.pinned.checked.prog.looks [] := by kernel_rfl
def laidList : List (String × DataW Unit) := [("errors.errorType", Rows.laid_errors_errorType)]
theorem et_g : Tryd.prog.globalNamed "errors.errorType" = some 0 := by kernel_rfl
theorem et_rt : (Tryd.prog.cutTypes.find? (·.1 == "internal/reflectlite.rtype")).map (·.2) = some 171 := by kernel_rfl
theorem et_row : ((List.range 242).filter fun t => Tryd.prog.rowNamed t [101, 114, 114, 111, 114]) = [29] := by kernel_rfl
theorem et_size : Tryd.prog.types.size = 242 := by kernel_rfl
theorem handle_of_laid {W : World} (h : laidMetH Tryd.prog laidList W) : Et W := by
  have h' : laidMet Tryd.prog [] W ∧ handlesMet Tryd.prog laidList W := h
  obtain ⟨name, u, ty, e1, e2, e3, e4, e5⟩ := h'.2 _ (List.mem_singleton.2 rfl)
  have en : name = [101, 114, 114, 111, 114] := (Option.some.inj e1).symm
  subst en
  obtain rfl := Option.some.inj (et_rt.symm.trans e2)
  have hm : ty ∈ (List.range 242).filter fun t => Tryd.prog.rowNamed t [101, 114, 114, 111, 114] := List.mem_filter.2 ⟨List.mem_range.2 (by rw [← et_size]; exact e3), e4⟩
  rw [et_row] at hm
  obtain rfl := List.mem_singleton.1 hm
  have hh : typeHandle Tryd.prog 29 = .pointer (some ⟨1, 29, none⟩) := by kernel_rfl
  rw [hh] at e5
  have := World.var?_cell et_g e5 0
  unfold Et hnd
  simpa using this
noncomputable def laidWorld (os : Os) : World :=
  let w0 := World.holding Tryd.prog os ⟨#[], #[], []⟩
  { w0 with heap := w0.heap.modify 0 fun
      | .cells _ t frozen => .cells #[.iface 171 (.agg #[.pointer (some ⟨1, 29, none⟩)])] t frozen
      | o => o }
theorem laidWorld_met (os : Os) (args : Array Value) : laidMetH Tryd.prog laidList ((laidWorld os).forCall (fun _ _ => 0) ⟨#[], args, []⟩).memory :=
  laidMetH_of_parts (laidMet_nil _ _) (by kernel_rfl)
end Go.Proofs.YtjbdhnmkeaogcaaDoor
namespace Go.Proofs.YtjbdhnmkeaogcaaDoor.partKeeps
open Go.ChangeShapes Go.WideShapes Go.ChangeAt Go.RowKit Lk
open Go.ChangeMaps (open_string shut_string)
set_option linter.unusedVariables false
set_option linter.unusedSimpArgs false
set_option maxRecDepth 100000 in
theorem lifted (os : Os) (started : os.Started) (H : Type) (enc : TypeId × Value → H) :
    ReturnsInHanded {} Tryd.checked os 20 .any (fun w args => (Rows.partKeepsSpec.pre enc Tryd.prog Tryd.f20 [] false w args ∧ laidMetH Tryd.prog laidList w) ∧ sizedMet enc Tryd.prog Tryd.f20 (OpenSpec.ofChange Rows.partKeepsSpec) false w args)
      (Rows.partKeepsSpec.post enc Tryd.prog Tryd.f20 false true false false) := by
  refine returnsInHanded_of_change_and (C := Tryd.checked) (X := fun w _ => laidMetH Tryd.prog laidList w) (fun _ _ _ hh h => h.of_heap hh) ownKnobNone started (by kernel_rfl) Tryd.func20
    (ChangeSpec.witness_at (enc := enc) (C := Tryd.checked) (os := os) (X := fun w _ => laidMetH Tryd.prog laidList w) false (laidWorld os) #[.agg #[.int .u8 0, .int .u8 0, .int .u8 0, .int .u8 0, .int .u8 0, .int .u8 0, .int .u8 0, .int .u8 0, .int .u8 0, .int .u8 0, .int .u8 0, .int .u8 0, .int .u8 0, .int .u8 0, .int .u8 0, .int .u8 0], .agg #[.int .u8 0, .int .u8 0, .int .u8 0, .int .u8 0, .int .u8 0, .int .u8 0, .int .u8 0, .int .u8 0, .int .u8 0, .int .u8 0, .int .u8 0, .int .u8 0, .int .u8 0, .int .u8 0, .int .u8 0, .int .u8 0]] 8 rfl (by kernel_rfl) (by kernel_rfl) (by kernel_rfl) (by kernel_rfl) (by kernel_rfl) (laidWorld_met os _)) ?_
  intro W base args ds gs before hval0 hW _ _ hLd _
  have hval : ∀ (j : Nat) t v, Tryd.f20.params[j]? = some t → args[j]? = some v → Value.okWide Tryd.prog W .any base t v := hval0
  have hW' := hW
  obtain ⟨p, q, hA0, hV, rfl, hfz, hnd⟩ := hW
  have hA : DataW.TrodAll enc Tryd.prog W 0 (fun _ => true) true Tryd.f20.params.toList args.toList ds p := hA0
  have hEt : Et W := handle_of_laid hLd
  rw [Tryd.params20] at hA hval
  obtain ⟨v0, vs0, d0, ds0, p0, q0, hargs, rfl, rfl, h0, r0⟩ := trodAll_cons hA
  obtain ⟨v1, vs1, d1, ds1, p1, q1, rfl, rfl, rfl, h1, r1⟩ := trodAll_cons r0
  obtain ⟨rfl, rfl, rfl⟩ := trodAll_nil r1
  obtain rfl : args = #[v0, v1] := by cases args; simp_all
  obtain ⟨rfl, rfl⟩ := trodVars_none hV
  have k0 := h0
  have lt0 : ∀ x ∈ p0, x.block < W.heap.size := by obtain ⟨m, hm⟩ := k0; exact DataW.trod_lt m _ _ _ hm
  obtain ⟨l0, hl0, rfl⟩ := open_arr_u8 Tryd.underlying41 Tryd.underlying5 (by kernel_rfl) (by kernel_rfl) (by decide) (hval 0 41 v0 rfl rfl)
  have k1 := h1
  have lt1 : ∀ x ∈ p1, x.block < W.heap.size := by obtain ⟨m, hm⟩ := k1; exact DataW.trod_lt m _ _ _ hm
  obtain ⟨l1, hl1, rfl⟩ := open_arr_u8 Tryd.underlying41 Tryd.underlying5 (by kernel_rfl) (by kernel_rfl) (by decide) (hval 1 41 v1 rfl rfl)
  clear hA0 hval0
  refine (PartKeeps_any l0 l1 W hEt hl0 hl1).mono fun e W' ⟨he, bel⟩ => ?_
  subst he
  exact ⟨_, rfl, _, _, _, [], _, [], hW', trodAll_mk1 (shut_bool Tryd.underlying4 _), (trodAll_cons_mk (Below.trod laidOutAll (by kernel_rfl) (of_decide_eq_true (by kernel_rfl)) k0 bel lt0) (trodAll_cons_mk (Below.trod laidOutAll (by kernel_rfl) (of_decide_eq_true (by kernel_rfl)) k1 bel lt1) trodAll_mk0)), rfl, bel.frame _, fun h => by cases h⟩
set_option maxHeartbeats 8000000 in
theorem closed : joinedFacts Tryd.checked.prog 20 Tryd.f20 Rows.partKeepsSpec Rows.partKeepsRow = true := by
  unfold joinedFacts
  simp only [Bool.and_eq_true]
  repeat' apply And.intro
  all_goals first | with_reducible exact fct_laid | with_reducible exact fct_maps | as_aux_lemma => kernel_rfl
theorem named_f : Tryd.prog.funcNamed "lockbox/lockboxlaw09.PartKeeps" = some 20 := by kernel_rfl
theorem over : Rows.PartKeepsSaid :=
  OpenClaim.holds_of_wide 20 Tryd.f20 rfl rfl rfl rfl rfl rfl rfl ⟨rfl, rfl, rfl, rfl, rfl⟩ rfl rfl rfl rfl rfl named_f Tryd.func20 closed
    (of_decide_eq_true (by kernel_rfl)) (by unfold Func.isWrapper; first | (rw [if_pos (by decide +kernel)]; kernel_rfl) | (rw [if_neg (by decide +kernel)]; exact ⟨rfl, rfl⟩))
    (fun os started H enc _ => lifted os started H enc)
theorem params_ok (j : Nat) (t : TypeId) (ht : Tryd.f20.params[j]? = some t) : Tryd.prog.wantsStandIn t = false := by
  rw [Tryd.params20] at ht
  have hm : t ∈ #[41, 41] := Array.mem_of_getElem? ht
  simp only [List.mem_toArray, List.mem_cons, List.not_mem_nil, or_false] at hm
  rcases hm with rfl | rfl
  · show Tryd.prog.wantsStandIn 41 = false
    kernel_rfl
  · show Tryd.prog.wantsStandIn 41 = false
    kernel_rfl
theorem wf_text : Rows.partKeepsRow.wfByText (OpenSpec.ofChange Rows.partKeepsSpec) = true := by kernel_rfl
theorem goes_no : false = Rows.partKeepsRow.goesBy Tryd.pinned.checked.prog := by kernel_rfl
theorem card_holds : Rows.PartKeepsCardSaid :=
  Claim7.holds_tied_plain_at .later [] [.handle] true (true, "8650a698aaa6e7940681561f98863e190d5ec889b7f6ab40edacde75e00aa3ea") true
    over (fun _ h => by cases h) wf_text (fun _ h => by cases h) partKeeps_row_tie rfl ⟨rfl, rfl⟩ fct_main rfl
    (fun f fn hf hfn => by
      obtain rfl : f = 20 := Option.some.inj (named_f.symm.trans hf) |>.symm
      obtain rfl : fn = Tryd.f20 := (Option.some.inj (Tryd.func20.symm.trans hfn)).symm
      exact ⟨fct_looks, fun j t ht => params_ok j t ht⟩)
    goes_no
#print axioms card_holds
end Go.Proofs.YtjbdhnmkeaogcaaDoor.partKeeps
namespace Go.Proofs.YtjbdhnmkeaogcaaDoor
/-- The card, under a short name, for the claim. -/
theorem partKeeps_holds : Rows.PartKeepsCardSaid := partKeeps.card_holds
end Go.Proofs.YtjbdhnmkeaogcaaDoor
