/- For every key the law PartOdd of the layer of keys' parts returns true (what is made odd is odd and stays so, just lowest bits are turned), and its argument reads as it did; the variable errors.errorType starts as the program lays it. -/
import Derived.Test.YtjbdhnmkeaogcaaDoorKB7
import Derived.Deep.QuietTactic
import Derived.BigQuiet
import Derived.Test.YtjbdhnmkeaogcaaDoorKB0
import Derived.WalkKit
import Derived.ProofKit
import Derived.OpenShut
import Derived.ShutString
import Derived.ChangeOld
import Derived.SizedLaws
import Derived.ChangeSlices
import Derived.Test.YtjbdhnmkeaogcaaDoorRows
import Derived.Test.YtjbdhnmkeaogcaaDoorKB6
import Derived.ChangeSame
import Derived.ChangeVars
import Derived.JoinedOf
import Derived.RowKit
import Derived.RowKitTokens
import Derived.LaidLaws
import Derived.LaidHandle
import Derived.Stop.Joined
import Derived.SevenTiedAt
import Derived.Test.YtjbdhnmkeaogcaaDoorCards
import Derived.Test.YtjbdhnmkeaogcaaDoorTie
set_option linter.unusedVariables false
set_option linter.unusedSimpArgs false
namespace Lk
open Go Go.RowKit
theorem odd1_all : allB (fun c => podd (podd1 c) && Nat.beq (Nat.div (podd1 c).toNat 2) (Nat.div c.toNat 2)) = true := by decide +kernel
theorem odd1_odd (c : UInt8) : podd (podd1 c) = true := by
  have h := allB_spec odd1_all c
  simp only [Bool.and_eq_true] at h; exact h.1
theorem odd1_half (c : UInt8) : bv (podd1 c) / 2 = bv c / 2 := by
  have h := allB_spec odd1_all c
  simp only [Bool.and_eq_true] at h
  have h2 : (podd1 c).toNat / 2 = c.toNat / 2 := Nat.eq_of_beq_eq_true h.2
  unfold bv
  omega
theorem podds_at (l : List UInt8) (k : Nat) (hk : k < l.length) : g8 (podds l) k = podd1 (g8 l k) := by
  unfold podds
  rw [oddTo_at l _ k hk, if_pos hk]
theorem first_none : ∀ (l : List UInt8) (i : Nat), (∀ c ∈ l, podd c = true) → firstFrom l i = -1
  | [], _, _ => rfl
  | c :: r, i, h => by
    rw [firstFrom, if_pos (h c (by simp))]
    exact first_none r (i + 1) fun x hx => h x (by simp [hx])
theorem first_podds (l : List UInt8) : pfirst (podds l) = -1 := by
  refine first_none _ _ fun c hc => ?_
  rw [podds_map] at hc
  obtain ⟨x, _, rfl⟩ := List.mem_map.1 hc
  exact odd1_odd x
theorem odd1_twice (c : UInt8) : podd1 (podd1 c) = podd1 c := by
  have h := odd1_odd c
  generalize podd1 c = x at h ⊢
  unfold podd1
  rw [if_pos h]
theorem podds_twice (l : List UInt8) : podds (podds l) = podds l := by
  rw [podds_map, podds_map, List.map_map]
  exact List.map_congr_left fun c _ => by rw [Function.comp_apply, odd1_twice]
end Lk
namespace Go.Proofs.YtjbdhnmkeaogcaaDoor
open Go.RowKit Lk
set_option maxHeartbeats 3200000 in
set_option maxRecDepth 100000 in
theorem PartOdd_any (v : Value) (l : List UInt8) (w : World) (hE : Et w) (h : SlB w v l) : Calls Tryd.prog 21 #[v] w fun e w' => e = .returned (.bool true) ∧ Below w.heap.size w w' := by
  obtain ⟨N, hN⟩ : ∃ N, w.heap.size = N := ⟨_, rfl⟩
  have HN := Lib.hid hN
  obtain ⟨L, hL⟩ : ∃ L, l.length = L := ⟨_, rfl⟩
  have EL := Lib.hid hL
  have HS := Lib.hid h
  obtain ⟨A, c, rfl, n1, n2, n3, n4⟩ := h
  rw [hL] at n2 HS ⊢
  have N4 := Lib.hid n4
  clear hL n1 n4
  have hM0 : Below N w w := Below.refl _ _
  have hs0 : N ≤ w.heap.size := by omega
  have E_0 := Lib.hid (hE)
  have S_0 := Lib.hid (HS.out)
  clear hE HS
  by_cases hl : L ≤ 100
  rotate_left
  · go_enter Tryd.func21, Tryd.ntmps21
    go_wp2_with fail
    refine (awake09 w E_0.out).mono ?_
    rintro e w1 ⟨rfl, hL⟩
    have hM1 : Below N w w1 := below_more hM0 hL hs0
    have hs1 : N ≤ w1.heap.size := Nat.le_trans hs0 (hL).size
    have E_1 := Lib.hid (E_0.out.below hL)
    clear E_0
    have S_1 := Lib.hid (S_0.out.below hL)
    clear S_0
    clear hM0 hs0
    clear hL
    go_wp2_with fail
    refine (awake09 w1 E_1.out).mono ?_
    rintro e w2 ⟨rfl, hL⟩
    have hM2 : Below N w w2 := below_more hM1 hL hs1
    have hs2 : N ≤ w2.heap.size := Nat.le_trans hs1 (hL).size
    have E_2 := Lib.hid (E_1.out.below hL)
    clear E_1
    have S_2 := Lib.hid (S_1.out.below hL)
    clear S_1
    clear hM1 hs1
    clear hL
    go_wp2_with fail
    go_ret
    exact ⟨rfl, by rw [HN.out]; exact hM2⟩
  go_enter Tryd.func21, Tryd.ntmps21
  go_wp2_with fail
  refine (awake09 w E_0.out).mono ?_
  rintro e w1 ⟨rfl, hL⟩
  have hM1 : Below N w w1 := below_more hM0 hL hs0
  have hs1 : N ≤ w1.heap.size := Nat.le_trans hs0 (hL).size
  have E_1 := Lib.hid (E_0.out.below hL)
  clear E_0
  have S_1 := Lib.hid (S_0.out.below hL)
  clear S_0
  clear hM0 hs0
  clear hL
  go_wp2_with fail
  refine (Odd_any _ l w1 S_1.out (by rw [EL.out]; omega)).mono ?_
  rintro e w2 ⟨v1, rfl, hO, hL⟩
  obtain ⟨A1, c1, e1, _, b1, b2, b3⟩ := hO.slB
  rw [podds_len, EL.out] at e1 b1
  subst e1
  have hO1 := hO
  have hM2 : Below N w w2 := below_more hM1 hL hs1
  have hs2 : N ≤ w2.heap.size := Nat.le_trans hs1 (hL).size
  have E_2 := Lib.hid (E_1.out.below hL)
  clear E_1
  have S_2 := Lib.hid (S_1.out.below hL)
  clear S_1
  clear hM1 hs1
  have O_2 := Lib.hid (hO)
  clear hL hO hO1
  go_wp2_with fail
  refine (Even_any _ (podds l) w2 O_2.out.slB (by rw [podds_len, EL.out]; omega)).mono ?_
  rintro e w3 ⟨rfl, hL⟩
  rw [first_podds]
  have hM3 : Below N w w3 := below_more hM2 hL hs2
  have hs3 : N ≤ w3.heap.size := Nat.le_trans hs2 (hL).size
  have E_3 := Lib.hid (E_2.out.below hL)
  clear E_2
  have S_3 := Lib.hid (S_2.out.below hL)
  clear S_2
  have O_3 := Lib.hid (O_2.out.under hL)
  clear O_2
  clear hM2 hs2
  clear hL
  go_wp2_with fail
  refine (Odd_any _ (podds l) w3 O_3.out.slB (by rw [podds_len, EL.out]; omega)).mono ?_
  rintro e w4 ⟨v2, rfl, hO, hL⟩
  rw [podds_twice] at hO
  have hM4 : Below N w w4 := below_more hM3 hL hs3
  have hs4 : N ≤ w4.heap.size := Nat.le_trans hs3 (hL).size
  have E_4 := Lib.hid (E_3.out.below hL)
  clear E_3
  have S_4 := Lib.hid (S_3.out.below hL)
  clear S_3
  have O_4 := Lib.hid (O_3.out.under hL)
  clear O_3
  clear hM3 hs3
  have O2_4 := Lib.hid (hO)
  clear hL hO
  go_wp2_with fail
  refine (Same_any _ _ (podds l) (podds l) w4 O2_4.out.slB O_4.out.slB (by rw [podds_len, EL.out]; omega)).mono ?_
  rintro e w5 ⟨rfl, hD⟩
  rw [beq_self_eq_true]
  have hM5 : Below N w w5 := below_more hM4 hD.below0 hs4
  have hs5 : N ≤ w5.heap.size := Nat.le_trans hs4 (hD.below0).size
  have E_5 := Lib.hid (E_4.out.below hD.below0)
  clear E_4
  have S_5 := Lib.hid (S_4.out.below hD.below0)
  clear S_4
  have O_5 := Lib.hid (O_4.out.under hD.below0)
  clear O_4
  have O2_5 := Lib.hid (O2_4.out.under hD.below0)
  clear O2_4
  clear hM4 hs4
  clear hD
  go_wp2_with fail
  have HM := Lib.hid hM5
  have HSZ := Lib.hid (show N ≤ w5.heap.size from hs5)
  clear hM5 hs5
  go_loopw [4] (fun i wr => ∃ k : Nat, k ≤ L ∧ i = .int .i64 k ∧ Drawn w5 wr) (fun i _ => L - (intOf i).toNat)
  case atStart => exact ⟨0, by omega, rfl, Drawn.refl _⟩
  case round =>
    obtain ⟨k, hk, rfl, hB⟩ := hrel
    by_cases hlt : k < L
    · have HLT := Lib.hid hlt
      obtain ⟨nq, rfl⟩ := hB
      obtain ⟨g, o, rfl, hr⟩ := N4.out (by omega)
      obtain ⟨gO, cO, eO, _, _, hrO, _, _⟩ := O_5.out.form (by rw [podds_len, EL.out]; omega)
      simp only [Value.slice.injEq] at eO
      obtain ⟨rfl, e2, e3⟩ := eO
      clear e2 e3
      have cc2 := cell_below (hr k (by rw [EL.out]; exact hlt)) HM.out (show g < N by rw [← HN.out]; exact block_of_cell (hr k (by rw [EL.out]; exact hlt)))
      have cc1 := hrO k (by rw [podds_len, EL.out]; exact hlt)
      rw [podds_at l k (by rw [EL.out]; exact hlt), Nat.zero_add] at cc1
      have ed := odd1_half (g8 l k)
      have q0 := bv_ge (g8 l k)
      have q1 := bv_ge (podd1 (g8 l k))
      generalize g8 l k = x at cc1 cc2 ed q0 q1
      generalize bv (podd1 x) = y at cc1 ed q1
      have hne : (y.tdiv 2 % 256 != (bv x).tdiv 2 % 256) = false := by rw [Int.tdiv_eq_ediv_of_nonneg q1, Int.tdiv_eq_ediv_of_nonneg q0, ed]; simp
      clear hr hrO hlt ed
      go_wp2
      go_quiet (fail)
      go_wp2
      go_roundw
      case rel => exact ⟨k + 1, HLT.out, by go_num, ⟨_, rfl⟩⟩
      case measure => have := HLT.out; simp [intOf]; omega
    · go_wp2
      go_ret
      obtain ⟨nq, rfl⟩ := hB
      exact ⟨rfl, by rw [HN.out]; exact below_more HM.out (Drawn.below0 ⟨nq, rfl⟩) HSZ.out⟩
end Go.Proofs.YtjbdhnmkeaogcaaDoor
set_option linter.unusedVariables false
set_option linter.unusedSimpArgs false
namespace Lk
open Go Go.RowKit
/-- a slice of whole numbers as it is read -/
def IsRow (k : IntKind) (w : World) (a : Option Addr) (len cap : Nat) (zs : List Int) : Prop :=
  (a = none ∧ len = 0 ∧ cap = 0 ∧ zs = []) ∨
  ∃ x, a = some x ∧ len ≤ cap ∧ cap ≤ maxLen ∧ zs.length = cap ∧ (∀ i, i < zs.length → w.cell? (x.add i) = some (.int k (zs.getD i 0))) ∧ ∀ n ∈ zs, (Lit.int k n).wf = true
theorem u8_of_wf {n : Int} (h : (Lit.int .u8 n).wf = true) : n = bv (UInt8.ofNat n.toNat) := by
  obtain ⟨a, rfl⟩ := open_u8 h
  unfold bv
  simp
theorem slB_of_row {w : World} {a : Option Addr} {len cap : Nat} {zs : List Int} (h : IsRow .u8 w a len cap zs) : ∃ l : List UInt8, l.length = len ∧ SlB w (.slice a len cap) l := by
  rcases h with ⟨rfl, rfl, rfl, rfl⟩ | ⟨x, rfl, h1, h2, h3, h4, h5⟩
  · exact ⟨[], rfl, none, 0, rfl, fun _ => rfl, Nat.le_refl _, Nat.zero_le _, fun h => by omega⟩
  · have hl : ((zs.take len).map fun z => UInt8.ofNat z.toNat).length = len := by simp; omega
    refine ⟨(zs.take len).map fun z => UInt8.ofNat z.toNat, hl, some x, cap, by rw [hl], fun h => (by cases h), by rw [hl]; exact h1, h2, fun hc => ?_⟩
    have hx : x.spot = none := by
      have := h4 0 (by omega)
      have e : x.add 0 = x := by simp [Addr.add]
      rw [e] at this
      unfold World.cell? at this
      split at this
      · split at this
        · cases this
        · rename_i hs; simpa using hs
      · cases this
    obtain ⟨g, o, s⟩ := x
    cases hx
    refine ⟨g, o, rfl, fun k hk => ?_⟩
    rw [hl] at hk
    have hc := h4 k (by omega)
    have ea : (⟨g, o, none⟩ : Addr).add k = ⟨g, o + k, none⟩ := by unfold Addr.add; split <;> simp_all
    rw [ea] at hc
    rw [hc]
    have hm : zs.getD k 0 ∈ zs := by
      have : k < zs.length := by omega
      simp [this]
    have := u8_of_wf (h5 _ hm)
    have e : g8 ((zs.take len).map fun z => UInt8.ofNat z.toNat) k = UInt8.ofNat (zs.getD k 0).toNat := by
      unfold g8
      have : k < zs.length := by omega
      simp [List.getElem?_take, hk, this]
    rw [e, ← this]
section
variable {P : Program} {H : Type} {enc : TypeId × Value → H}
theorem open_slice_u8 {t e : TypeId} {W : World} {a : Option Addr} {len cap : Nat} {d : DataW H} {ps : List MemPlace} (ht : P.underlying t = some (.slice e)) (he : P.underlying e = some (.int .u8)) (hc : P.cellsOf e = 1)
    (h : DataW.Trod enc P W 0 (fun _ => true) true t (.slice a len cap) d ps) : ∃ l : List UInt8, l.length = len ∧ SlB W (.slice a len cap) l := by
  obtain ⟨zs, hz⟩ : ∃ zs, IsRow .u8 W a len cap zs := by
    obtain ⟨fuel, hf⟩ := h
    rcases Go.ChangeShapes.open_ints ht he hc hf with ⟨hcs, _⟩ | ⟨x, l, c, zs, hcs, _, hl, hm, hz, _, hcell, hwz⟩
    · simp [Value.cells] at hcs
      obtain ⟨rfl, rfl, rfl⟩ := hcs
      exact ⟨[], .inl ⟨rfl, rfl, rfl, rfl⟩⟩
    · simp [Value.cells] at hcs
      obtain ⟨rfl, rfl, rfl⟩ := hcs
      exact ⟨zs, .inr ⟨_, rfl, hl, hm, by simpa using hz, hcell, hwz⟩⟩
  exact slB_of_row hz
/-- an array of bytes -/
theorem open_arr_u8 {t e n : Nat} {W : World} {r : Reach} {base : Nat} {v : Value} (ht : P.underlying t = some (.array n e)) (he : P.underlying e = some (.int .u8)) (hc : P.cellsOf t = n) (hct : P.cellTypes P.depth t = some (List.replicate n e)) (hn : 0 < n)
    (h : Value.okWide P W r base t v) : ∃ l : List UInt8, l.length = n ∧ v = .agg (Bs l) := by
  simp only [Value.okWide, ht] at h
  obtain ⟨cs, rfl, hsz, ts, hts, _, hcell⟩ := h
  rw [hct] at hts
  cases hts
  rw [hc] at hsz
  refine ⟨cs.toList.map fun v => match v with | .int _ z => UInt8.ofNat z.toNat | _ => 0, by simp [hsz], ?_⟩
  congr 1
  apply Array.ext
  · simp [Bs]
  · intro i h1 h2
    obtain ⟨u, hu, hok⟩ := hcell i cs[i] (by simp [h1])
    have hue : u = e := by
      rw [List.getElem?_replicate] at hu
      split at hu
      · cases hu; rfl
      · cases hu
    subst hue
    simp only [Cell.okWide, he] at hok
    simp only [Bs, List.map_map, List.getElem_toArray, List.getElem_map, Function.comp_apply, Array.getElem_toList]
    cases hv : cs[i] with
    | int k z =>
      rw [hv] at hok
      simp only [Cell.ok, he] at hok
      obtain ⟨rfl, hw⟩ := hok
      have hw' : (Lit.int .u8 z).wf = true := by
        unfold Lit.wf
        rw [Bool.and_eq_true]
        exact ⟨decide_eq_true hw.1, decide_eq_true hw.2⟩
      simp only [← u8_of_wf hw']
    | _ => rw [hv] at hok; simp [Cell.ok, he] at hok
end
end Lk
set_option linter.unusedVariables false
namespace Go.Proofs.YtjbdhnmkeaogcaaDoor
open Go.ChangeShapes Go.WideShapes Go.RowKit
theorem ownKnobNone : ownKnob Tryd.prog.godebug = none := by kernel_rfl
theorem laidOutAll : laidOutB Tryd.prog = true := by kernel_rfl
theorem fct_laid : laidOutB Tryd.checked.prog = true := by kernel_rfl
theorem fct_maps : mapsRowed Tryd.checked.prog = true := by kernel_rfl
theorem fct_main : Tryd.pinned.checked.prog.mainIs = some (true, "8650a698aaa6e7940681561f98863e190d5ec889b7f6ab40edacde75e00aa3ea".toList) := by kernel_rfl
theorem fct_looks : true = Tryd.pinned.checked.prog.looks [] := by kernel_rfl
def laidList : List (String × DataW Unit) := [("errors.errorType", Rows.laid_errors_errorType)]
theorem et_g : Tryd.prog.globalNamed "errors.errorType" = some 0 := by kernel_rfl
theorem et_rt : (Tryd.prog.cutTypes.find? (·.1 == "internal/reflectlite.rtype")).map (·.2) = some 171 := by kernel_rfl
theorem et_row : ((List.range 242).filter fun t => Tryd.prog.rowNamed t [101, 114, 114, 111, 114]) = [29] := by kernel_rfl
theorem et_size : Tryd.prog.types.size = 242 := by kernel_rfl
theorem handle_of_laid {W : World} (h : laidMetH Tryd.prog laidList W) : Et W := by
  have h' : laidMet Tryd.prog [] W ∧ handlesMet Tryd.prog laidList W := h
  obtain ⟨name, u, ty, e1, e2, e3, e4, e5⟩ := h'.2 _ (List.mem_singleton.2 rfl)
  have en : name = [101, 114, 114, 111, 114] := (Option.some.inj e1).symm
  subst en
  obtain rfl := Option.some.inj (et_rt.symm.trans e2)
  have hm : ty ∈ (List.range 242).filter fun t => Tryd.prog.rowNamed t [101, 114, 114, 111, 114] := List.mem_filter.2 ⟨List.mem_range.2 (by rw [← et_size]; exact e3), e4⟩
  rw [et_row] at hm
  obtain rfl := List.mem_singleton.1 hm
  have hh : typeHandle Tryd.prog 29 = .pointer (some ⟨1, 29, none⟩) := by kernel_rfl
  rw [hh] at e5
  have := World.var?_cell et_g e5 0
  unfold Et hnd
  simpa using this
noncomputable def laidWorld (os : Os) : World :=
  let w0 := World.holding Tryd.prog os ⟨#[], #[], []⟩
  { w0 with heap := w0.heap.modify 0 fun
      | .cells _ t frozen => .cells #[.iface 171 (.agg #[.pointer (some ⟨1, 29, none⟩)])] t frozen
      | o => o }
theorem laidWorld_met (os : Os) (args : Array Value) : laidMetH Tryd.prog laidList ((laidWorld os).forCall (fun _ _ => 0) ⟨#[], args, []⟩).memory :=
  laidMetH_of_parts (laidMet_nil _ _) (by kernel_rfl)
end Go.Proofs.YtjbdhnmkeaogcaaDoor
namespace Go.Proofs.YtjbdhnmkeaogcaaDoor.partOdd
open Go.ChangeShapes Go.WideShapes Go.ChangeAt Go.RowKit Lk
open Go.ChangeMaps (open_string shut_string)
set_option linter.unusedVariables false
set_option linter.unusedSimpArgs false
set_option maxRecDepth 100000 in
theorem lifted (os : Os) (started : os.Started) (H : Type) (enc : TypeId × Value → H) :
    ReturnsInHanded {} Tryd.checked os 21 .any (fun w args => (Rows.partOddSpec.pre enc Tryd.prog Tryd.f21 [] false w args ∧ laidMetH Tryd.prog laidList w) ∧ sizedMet enc Tryd.prog Tryd.f21 (OpenSpec.ofChange Rows.partOddSpec) false w args)
      (Rows.partOddSpec.post enc Tryd.prog Tryd.f21 false true false false) := by
  refine returnsInHanded_of_change_and (C := Tryd.checked) (X := fun w _ => laidMetH Tryd.prog laidList w) (fun _ _ _ hh h => h.of_heap hh) ownKnobNone started (by kernel_rfl) Tryd.func21
    (ChangeSpec.witness_at (enc := enc) (C := Tryd.checked) (os := os) (X := fun w _ => laidMetH Tryd.prog laidList w) false (laidWorld os) #[.slice none 0 0] 8 rfl (by kernel_rfl) (by kernel_rfl) (by kernel_rfl) (by kernel_rfl) (by kernel_rfl) (laidWorld_met os _)) ?_
  intro W base args ds gs before hval0 hW _ _ hLd _
  have hval : ∀ (j : Nat) t v, Tryd.f21.params[j]? = some t → args[j]? = some v → Value.okWide Tryd.prog W .any base t v := hval0
  have hW' := hW
  obtain ⟨p, q, hA0, hV, rfl, hfz, hnd⟩ := hW
  have hA : DataW.TrodAll enc Tryd.prog W 0 (fun _ => true) true Tryd.f21.params.toList args.toList ds p := hA0
  have hEt : Et W := handle_of_laid hLd
  rw [Tryd.params21] at hA hval
  obtain ⟨v0, vs0, d0, ds0, p0, q0, hargs, rfl, rfl, h0, r0⟩ := trodAll_cons hA
  obtain ⟨rfl, rfl, rfl⟩ := trodAll_nil r0
  obtain rfl : args = #[v0] := by cases args; simp_all
  obtain ⟨rfl, rfl⟩ := trodVars_none hV
  have k0 := h0
  have lt0 : ∀ x ∈ p0, x.block < W.heap.size := by obtain ⟨m, hm⟩ := k0; exact DataW.trod_lt m _ _ _ hm
  obtain ⟨a0, len0, cap0, rfl⟩ := okWide_slice Tryd.underlying22 (hval 0 22 v0 rfl rfl)
  obtain ⟨l0, hl0, s0⟩ := open_slice_u8 Tryd.underlying22 Tryd.underlying5 (by kernel_rfl) h0
  clear hA0 hval0
  refine (PartOdd_any _ l0 W hEt s0).mono fun e W' ⟨he, bel⟩ => ?_
  subst he
  exact ⟨_, rfl, _, _, _, [], _, [], hW', trodAll_mk1 (shut_bool Tryd.underlying4 _), (trodAll_cons_mk (Below.trod laidOutAll (by kernel_rfl) (of_decide_eq_true (by kernel_rfl)) k0 bel lt0) trodAll_mk0), rfl, bel.frame _, fun h => by cases h⟩
set_option maxHeartbeats 8000000 in
theorem closed : joinedFacts Tryd.checked.prog 21 Tryd.f21 Rows.partOddSpec Rows.partOddRow = true := by
  unfold joinedFacts
  simp only [Bool.and_eq_true]
  repeat' apply And.intro
  all_goals first | with_reducible exact fct_laid | with_reducible exact fct_maps | as_aux_lemma => kernel_rfl
theorem named_f : Tryd.prog.funcNamed "lockbox/lockboxlaw09.PartOdd" = some 21 := by kernel_rfl
theorem over : Rows.PartOddSaid :=
  OpenClaim.holds_of_wide 21 Tryd.f21 rfl rfl rfl rfl rfl rfl rfl ⟨rfl, rfl, rfl, rfl, rfl⟩ rfl rfl rfl rfl rfl named_f Tryd.func21 closed
    (of_decide_eq_true (by kernel_rfl)) (by unfold Func.isWrapper; first | (rw [if_pos (by decide +kernel)]; kernel_rfl) | (rw [if_neg (by decide +kernel)]; exact ⟨rfl, rfl⟩))
    (fun os started H enc _ => lifted os started H enc)
theorem params_ok (j : Nat) (t : TypeId) (ht : Tryd.f21.params[j]? = some t) : Tryd.prog.wantsStandIn t = false := by
  rw [Tryd.params21] at ht
  have hm : t ∈ #[22] := Array.mem_of_getElem? ht
  simp only [List.mem_toArray, List.mem_cons, List.not_mem_nil, or_false] at hm
  subst hm
  · show Tryd.prog.wantsStandIn 22 = false
    kernel_rfl
theorem wf_text : Rows.partOddRow.wfByText (OpenSpec.ofChange Rows.partOddSpec) = true := by kernel_rfl
theorem goes_no : false = Rows.partOddRow.goesBy Tryd.pinned.checked.prog := by kernel_rfl
theorem card_holds : Rows.PartOddCardSaid :=
  Claim7.holds_tied_plain_at .later [] [.handle] true (true, "8650a698aaa6e7940681561f98863e190d5ec889b7f6ab40edacde75e00aa3ea") true
    over (fun _ h => by cases h) wf_text (fun _ h => by cases h) partOdd_row_tie rfl ⟨rfl, rfl⟩ fct_main rfl
    (fun f fn hf hfn => by
      obtain rfl : f = 21 := Option.some.inj (named_f.symm.trans hf) |>.symm
      obtain rfl : fn = Tryd.f21 := (Option.some.inj (Tryd.func21.symm.trans hfn)).symm
      exact ⟨fct_looks, fun j t ht => params_ok j t ht⟩)
    goes_no
#print axioms card_holds
end Go.Proofs.YtjbdhnmkeaogcaaDoor.partOdd
namespace Go.Proofs.YtjbdhnmkeaogcaaDoor
/-- The card, under a short name, for the claim. -/
theorem partOdd_holds : Rows.PartOddCardSaid := partOdd.card_holds
end Go.Proofs.YtjbdhnmkeaogcaaDoor
