/- The oracle is asked. -/
import Derived.Test.YtbbfjlnkhenbiaaDoorKP0
import Derived.Test.YtbbfjlnkhenbiaaDoorKG0
import Derived.Test.YtbbfjlnkhenbiaaDoorKB4
import Derived.Test.YtbbfjlnkhenbiaaDoorKB7
import Derived.Test.YtbbfjlnkhenbiaaDoorKB5
set_option linter.unusedVariables false
set_option linter.unusedSimpArgs false
namespace Lk
open Go Go.RowKit
theorem pfind_some {rows : List Rw} {key x : List UInt8} {back : Bool} {k : Nat} {r : Rw} (h : rows[k]? = some r) (hy : (r.k == key && rfrom back r == x) = true) (hno : ∀ (j : Nat) (q : Rw), j < k → rows[j]? = some q → (q.k == key && rfrom back q == x) = false) : pfind rows key x back = some r := by
  unfold pfind
  rw [List.find?_eq_some_iff_getElem]
  obtain ⟨hk, rfl⟩ := List.getElem?_eq_some_iff.1 h
  refine ⟨hy, k, hk, rfl, fun j hj => ?_⟩
  have := hno j rows[j] hj (List.getElem?_eq_getElem (by omega))
  rw [this]; rfl
theorem pfind_none {rows : List Rw} {key x : List UInt8} {back : Bool} (hno : ∀ (j : Nat) (q : Rw), rows[j]? = some q → (q.k == key && rfrom back q == x) = false) : pfind rows key x back = none := by
  unfold pfind
  rw [List.find?_eq_none]
  intro r hr
  obtain ⟨j, hj⟩ := List.mem_iff_getElem?.1 hr
  simp [hno j r hj]
end Lk
namespace Go.Proofs.YtbbfjlnkhenbiaaDoor
open Go Go.RowKit Lk
theorem or_none {w : World} {y : List UInt8} {v : Value} (h : ((none : Option (List UInt8)) = some y ∧ v = .nilIface) ∨ ((none : Option (List UInt8)) = none ∧ ∃ a : Int, 0 ≤ a ∧ ErV w [a] 13 v)) : ∃ a : Int, 0 ≤ a ∧ ErV w [a] 13 v := by
  rcases h with ⟨h, _⟩ | ⟨_, h⟩
  · cases h
  · exact h
theorem or_some {w : World} {y0 y : List UInt8} {v : Value} (h : (some y0 = some y ∧ v = .nilIface) ∨ (some y0 = none ∧ ∃ a : Int, 0 ≤ a ∧ ErV w [a] 13 v)) : y = y0 ∧ v = .nilIface := by
  rcases h with ⟨h, e⟩ | ⟨h, _⟩
  · injection h with h; exact ⟨h.symm, e⟩
  · cases h
/-- what ask answers -/
def AskR (w' : World) (B gb gt : Nat) (r : List Rw × List UInt8 × Option (List UInt8)) (e : Ending) : Prop :=
  BkAt w' B gb gt r.1 r.2.1 ∧ ∃ y v, e = .returned (.tuple #[.agg (Bs y), v]) ∧ y.length = 16 ∧ ((r.2.2 = some y ∧ v = .nilIface) ∨ (r.2.2 = none ∧ ∃ a, 0 ≤ a ∧ ErV w' [a] 13 v))
set_option maxHeartbeats 6400000 in
set_option maxRecDepth 100000 in
theorem ask_any (rows : List Rw) (tp : List UInt8) (B gb gt : Nat) (key x : List UInt8) (back : Bool) (w : World) (hb : BkAt w B gb gt rows tp) (hrl : rows.length ≤ 100000) (htl : tp.length ≤ 1000000) (hx : x.length = 16) (hBw : B ≤ w.heap.size) :
    Calls Tryd.prog 54 #[.pointer (some ⟨gb, 0, none⟩), .string (ost key), .agg (Bs x), .bool back] w fun e w' => AskR w' B gb gt (pask rows tp key x back) e ∧ Fr 3 w w' ∧ Below B w w' := by
  obtain ⟨N, hN⟩ : ∃ N, w.heap.size = N := ⟨_, rfl⟩
  have HN := Lib.hid hN
  have HB := Lib.hid hb
  have HRL := Lib.hid hrl
  have HTL := Lib.hid htl
  have HX := Lib.hid hx
  have HBW := Lib.hid hBw
  have HOK := Lib.hid hb.ok
  obtain ⟨vr, hbk, hrr⟩ := hb.book
  have HGB := Lib.hid (show gb < N from by rw [← hN]; exact (Array.getElem?_eq_some_iff.1 hbk).1)
  have HGT := Lib.hid (show gt < N from by rw [← hN]; obtain ⟨u, hu, _⟩ := hb.tape; exact (Array.getElem?_eq_some_iff.1 hu).1)
  obtain ⟨A, c, rfl⟩ := hrr.formc
  obtain ⟨L, eL⟩ : ∃ L, rows.length = L := ⟨_, rfl⟩
  rw [eL] at hbk hrr
  have EL := Lib.hid eL
  have HBK := Lib.hid hbk
  have HRR := Lib.hid hrr
  obtain ⟨R, eR⟩ : ∃ R, pask rows tp key x back = R := ⟨_, rfl⟩
  have HR := Lib.hid eR
  rw [eR]
  clear hN hb hrl htl hx hBw hbk hrr eL eR
  go_enter Tryd.func54, Tryd.ntmps54
  go_wp2_with (first
    | ((with_reducible show wpList _ _ _ _ _ w); refine box_v1 (w := w) rfl 24 _ rfl (.pointer (some ⟨gb, 0, none⟩)) (by rfl) rfl ?_; intro w0 hA0 hG0 hz0; rw [HN.out] at hA0 hz0 ⊢)
    | ((with_reducible show wpList _ _ _ _ _ w0); refine box_v1 (w := w0) rfl 9 _ rfl (.string (ost key)) (by rfl) rfl ?_; intro w1 hK1 hG1 hz1; rw [hz0] at hK1 hz1 ⊢; have hA1 := hA0.old hG1 (by simp))
    | ((with_reducible show wpList _ _ _ _ _ w1); refine box_blk (w := w1) rfl 41 _ rfl x (by rfl) ?_; intro w2 hX2 hG2 hz2; rw [hz1] at hX2 hz2 ⊢; have hA2 := hA1.old hG2 (by simp); have hK2 := hK1.old hG2 (by simp))
    | ((with_reducible show wpList _ _ _ _ _ w2); refine box_v1 (w := w2) rfl 4 _ rfl (.bool back) (by rfl) rfl ?_; intro w3 hC3 hG3 hz3; rw [hz2] at hC3 hz3 ⊢; have hA3 := hA2.old hG3 (by simp); have hK3 := hK2.old hG3 (by simp); have hX3 := hX2.old hG3 (by simp))
    | ((with_reducible show wpList _ _ _ _ _ w3); refine alloc_row (w := w3) rfl 41 rfl (.agg (Bs (List.replicate 16 0))) 16 (fun _ => by kernel_rfl) rfl ?_; intro w4 hR4 _ hG4 hz4; rw [hz3] at hR4 hz4 ⊢; have hA4 := hA3.old hG4 (by simp); have hK4 := hK3.old hG4 (by simp); have hX4 := hX3.old hG4 (by simp); have hC4 := hC3.old hG4 (by simp))
    | ((with_reducible show wpList _ _ _ _ _ w4); refine alloc_vb (w := w4) rfl 154 rfl .nilFunc [.nilFunc] (fun _ => by kernel_rfl) rfl ?_; intro w5 hF5 hG5 hz5; rw [hz4] at hF5 hz5 ⊢; have hA5 := hA4.old hG5 (by simp); have hK5 := hK4.old hG5 (by simp); have hX5 := hX4.old hG5 (by simp); have hC5 := hC4.old hG5 (by simp); have hR5 := hR4.old hG5 (by simp))
    | ((with_reducible show wpList _ _ _ _ _ w5); refine store_vb1 (w := w5) rfl 154 _ _ rfl (N + 1 + 1 + 1 + 1 + 1) 0 154 [.nilFunc] (.func (.func 77) #[] #[.pointer (some ⟨N + 1 + 1 + 1, 0, none⟩)]) (by rfl) (by rfl) rfl hF5 _ rfl (by kernel_rfl) ?_; intro w6 hF6 hG6 hz6; have hA6 := hA5.old hG6 (by simp; omega); have hK6 := hK5.old hG6 (by simp; omega); have hX6 := hX5.old hG6 (by simp; omega); have hC6 := hC5.old hG6 (by simp; omega); have hR6 := hR5.old hG6 (by simp); have hM6 : Below N w w6 := below_new (below_none (below_none (below_none (below_none (below_none (below_none (Below.refl _ _) (by rw [HN.out]; omega) hG0) (by omega) hG1) (by omega) hG2) (by omega) hG3) (by omega) hG4) (by omega) hG5) (by omega) hG6 (by omega); have hL6 : Below w.heap.size w w6 := (by rw [HN.out]; exact hM6); have ca := hA6.cell 0 _ rfl; have hbk6 : w6.heap[gb]? = _ := (hM6.block gb HGB.out).trans HBK.out; have cb : w6.cell? ⟨gb, 0, none⟩ = some (.slice A L c) := (by unfold World.cell?; rw [hbk6]; rfl)))
  have hz6' : w6.heap.size = N + 6 := by omega
  have HA := Lib.hid hA6
  have HK := Lib.hid hK6
  have HXb := Lib.hid hX6
  have HC := Lib.hid hC6
  have HRb := Lib.hid hR6
  have HF := Lib.hid hF6
  have HM6 := Lib.hid hM6
  have HZ6 := Lib.hid hz6'
  have HB6 := Lib.hid (HB.out.below hL6)
  have HCap := Lib.hid (show Cap w6 (N + 1 + 1 + 1 + 1 + 1) (N + 1 + 1 + 1) (N + 1) key back from ⟨hF6.cell 0 _ rfl, hC6.cell 0 _ rfl, hK6.cell 0 _ rfl⟩)
  have HRR6 := Lib.hid (HRR.out.below hL6)
  clear hA0 hA1 hA2 hA3 hA4 hA5 hA6 hK1 hK2 hK3 hK4 hK5 hK6 hX2 hX3 hX4 hX5 hX6 hC3 hC4 hC5 hC6 hR4 hR5 hR6 hF5 hF6 hG0 hG1 hG2 hG3 hG4 hG5 hG6 hz0 hz1 hz2 hz3 hz4 hz5 hz6 hz6' hM6 hL6 hbk6 ca cb
  go_loopw [24] (fun i wr => ∃ k : Nat, k ≤ L ∧ i = .int .i64 k ∧ (∀ (j : Nat) (q : Rw), j < k → rows[j]? = some q → (q.k == key && rfrom back q == x) = false) ∧ Below (N + 6) w6 wr) (fun i _ => L - (intOf i).toNat)
  case atStart => exact ⟨0, by omega, rfl, fun j q hj => by omega, Below.refl _ _⟩
  case round =>
    obtain ⟨k, hk, rfl, hno, hM⟩ := hrel
    have HNO := Lib.hid hno
    have HM := Lib.hid hM
    clear hno hM
    have HL6 := Lib.hid (show Below w6.heap.size w6 wr from by rw [HZ6.out]; exact HM.out)
    have HC1 := Lib.hid (HCap.out.below HL6.out)
    have HX1 := Lib.hid (HXb.out.under HL6.out)
    have HR1 := Lib.hid (HRb.out.below HL6.out HRb.out.lt)
    by_cases hlt : k < L
    · have hik : (k : Int) < (L : Int) := by omega
      have HLT := Lib.hid hlt
      obtain ⟨g, c', e, hlc⟩ := HRR6.out.form (by rw [EL.out]; omega)
      rw [EL.out] at e
      cases e
      have hkl : k < rows.length := by rw [EL.out]; exact hlt
      obtain ⟨r, er⟩ : ∃ r, rows[k] = r := ⟨_, rfl⟩
      have hrk : rows[k]? = some r := by rw [List.getElem?_eq_getElem hkl, er]
      have hR1 := (HRR6.out.below HL6.out).range HOK.out k r hrk
      have hmem : r ∈ rows := List.mem_of_getElem? hrk
      have hrok := HOK.out r hmem
      have HSd := Lib.hid (fun (w1 : World) (h : Cap w1 (N + 1 + 1 + 1 + 1 + 1) (N + 1 + 1 + 1) (N + 1) key back) => sides_any r (N + 1 + 1 + 1) back w1 hrok h.back)
      have HRK := Lib.hid hrk
      have HRCL := Lib.hid (rwc_len hrok)
      have HTL2 := Lib.hid (show (rto back r).length = 16 from by cases back <;> simp [rto, hrok.1, hrok.2])
      have HFL2 := Lib.hid (show (rfrom back r).length = 16 from by cases back <;> simp [rfrom, hrok.1, hrok.2])
      have hq := fun w => run_eql_bs (P := Tryd.prog) w (t := 41) (e := 5) (rfrom back r) x (by kernel_rfl) (by kernel_rfl) (by kernel_rfl) (by kernel_rfl) HFL2.out HX.out
      have hks := ost_eq r.k key
      obtain ⟨p, hp⟩ : ∃ p, (r.k == key) = p := ⟨_, rfl⟩
      obtain ⟨q, hqq⟩ : ∃ q, (rfrom back r == x) = q := ⟨_, rfl⟩
      rw [hp] at hks
      rw [hqq] at hq
      have HPQ := Lib.hid (show (r.k == key && rfrom back r == x) = (p && q) from by rw [hp, hqq])
      obtain ⟨rt, ert⟩ : ∃ rt, rto back r = rt := ⟨_, rfl⟩
      obtain ⟨rf, erf⟩ : ∃ rf, rfrom back r = rf := ⟨_, rfl⟩
      rw [ert, erf] at HSd
      rw [ert] at HTL2
      rw [erf] at HFL2 hq
      have HERT := Lib.hid ert
      have HRC0 := Lib.hid (show (rwc r)[0]? = some (.string (ost r.k)) from rfl)
      have HONE := Lib.hid (rwc_one r)
      obtain ⟨rc, erc⟩ : ∃ rc, rwc r = rc := ⟨_, rfl⟩
      rw [erc] at HRCL hR1 HSd HRC0 HONE
      have hp33 : k * 33 = 33 * k := by omega
      have hrw : wr.heap.size ≥ N + 6 := by have := HL6.out.size; have := HZ6.out; omega
      clear hkl er hrk hmem hrok hlc hp hqq ert erf erc
      cases p
      · go_wp2_with (first
          | ((with_reducible show wpList _ _ _ _ _ wr); refine wpList_load_mid (w := wr) rfl 153 _ rfl g (33 * k) (by first | rfl | (rw [← hp33]; rfl)) rc _ hR1 Tryd.underlying153 rfl (by rw [HRCL.out]; kernel_rfl) ?_)
          | ((with_reducible show wpList _ _ _ _ _ wr); refine alloc_row (w := wr) rfl 153 rfl rz 33 (fun _ => by kernel_rfl) (by kernel_rfl) ?_; intro v0 hW0 _ hG0 hz0; obtain ⟨G, eG⟩ : ∃ G, wr.heap.size = G := ⟨_, rfl⟩; rw [eG] at hW0 hz0 ⊢)
          | ((with_reducible show wpList _ _ _ _ _ v0); refine store_vro (w := v0) rfl 153 _ _ rfl G 153 33 rc (by rfl) (by rfl) hW0 HONE.out HRCL.out (by kernel_rfl) ?_; intro v1 hW1 hG1 hz1; have hLv1 : Below wr.heap.size wr v1 := below_new (below_none (Below.refl _ _) (Nat.le_refl _) hG0) (by omega) hG1 (by omega); have hCv1 := HC1.out.below hLv1; have cf1 := hCv1.sides)
          | ((with_reducible show wpList _ _ _ _ _ v1); refine load_vb (w := v1) rfl 153 _ rfl G 0 153 33 _ rc rc (by rfl) hW1 (by rw [List.drop_zero, List.take_of_length_le (by rw [HRCL.out]; exact Nat.le_refl _)]) HRCL.out Tryd.underlying153 rfl (by kernel_rfl) ?_)
          | (go_at_call 77; refine (HSd.out v1 hCv1).mono ?_; rintro e v2 ⟨rfl, hL2⟩; have hW2 := hW1.next hL2; have hLv2 := below_more hLv1 hL2 hLv1.size; have hz2 := hL2.size)
          | ((with_reducible show wpList _ _ _ _ _ v2); refine alloc_row (w := v2) rfl 41 rfl (.agg (Bs (List.replicate 16 0))) 16 (fun _ => by kernel_rfl) rfl ?_; intro v3 hR3 _ hG3 hz3; have hW3 := hW2.old hG3 (by simp); have hLv3 := below_none hLv2 (by omega) hG3; obtain ⟨H, eH⟩ : ∃ H, v2.heap.size = H := ⟨_, rfl⟩; rw [eH] at hR3 hz3 hz2 ⊢)
          | ((with_reducible show wpList _ _ _ _ _ v3); refine alloc_row (w := v3) rfl 41 rfl (.agg (Bs (List.replicate 16 0))) 16 (fun _ => by kernel_rfl) rfl ?_; intro v4 hR4 _ hG4 hz4; have hW4 := hW3.old hG4 (by simp); have hR34 := hR3.old hG4 (by simp); have hLv4 := below_none hLv3 (by omega) hG4; rw [hz3] at hR4 hz4 ⊢)
          | ((with_reducible show wpList _ _ _ _ _ v4); refine store_blk (w := v4) rfl 41 _ _ rfl H 41 16 rf (by rfl) (by rfl) hR34 HFL2.out (by kernel_rfl) ?_; intro v5 hB5 hG5 hz5; have hW5 := hW4.old hG5 (by simp; omega); have hR5 := hR4.old hG5 (by simp); have hLv5 := below_new hLv4 (by omega) hG5 (by omega))
          | ((with_reducible show wpList _ _ _ _ _ v5); refine store_blk (w := v5) rfl 41 _ _ rfl (H + 1) 41 16 rt (by rfl) (by rfl) hR5 HTL2.out (by kernel_rfl) ?_; intro v6 hB6 hG6 hz6; have hW6 := hW5.old hG6 (by simp; omega); have hF6 := hB5.old hG6 (by simp); have hLv6 := below_new hLv5 (by omega) hG6 (by omega); have hL6 : Below wr.heap.size wr v6 := hLv6; have cr6 := hW6.cell 0 _ HRC0.out; have hX6 := HX1.out.under hL6; have hC6 := HC1.out.below hL6; have ck6 := hC6.key; have hR6 := HR1.out.below hL6 HR1.out.lt)
          | ((with_reducible show wpList _ _ _ _ _ v6); refine load_blk_g (w := v6) rfl 41 _ rfl H 41 16 5 rf (by rfl) hF6 HFL2.out (by kernel_rfl) (by kernel_rfl) ?_)
          | ((with_reducible show wpList _ _ _ _ _ v6); refine load_blk_g (w := v6) rfl 41 _ rfl (N + 1 + 1) 41 16 5 x (by rfl) hX6 HX.out (by kernel_rfl) (by kernel_rfl) ?_)
          | ((with_reducible show wpList _ _ _ _ _ v6); refine load_blk (w := v6) rfl 41 _ rfl (H + 1) 41 16 5 rt (by rfl) hB6 HTL2.out (by kernel_rfl) (by kernel_rfl) ?_)
          | ((with_reducible show wpList _ _ _ _ _ v6); refine store_blk (w := v6) rfl 41 _ _ rfl (N + 1 + 1 + 1 + 1) 41 16 rt (by rfl) (by rfl) hR6 HTL2.out (by kernel_rfl) ?_; intro v7 hB7 hG7 hz7; obtain ⟨oc, hoc, _⟩ := hR6))
        refine ⟨⟨k + 1, HLT.out, by have := HLT.out; have := EL.out; have := HRL.out; rw [show wrap64 ((k : Int) + 1) = ((k + 1 : Nat) : Int) from by unfold wrap64; omega], fun j q2 hj hj2 => ?_, below_more HM.out hLv6 (by omega)⟩, by have := HLT.out; have := EL.out; have := HRL.out; rw [show wrap64 ((k : Int) + 1) = (k : Int) + 1 from by unfold wrap64; omega]; show L - ((k : Int) + 1).toNat < L - (k : Int).toNat; omega⟩
        by_cases e : j = k
        · subst e
          rw [HRK.out] at hj2
          injection hj2 with hj2
          rw [← hj2, HPQ.out]; rfl
        · exact HNO.out j q2 (by omega) hj2
      cases q
      · go_wp2_with (first
          | ((with_reducible show wpList _ _ _ _ _ wr); refine wpList_load_mid (w := wr) rfl 153 _ rfl g (33 * k) (by first | rfl | (rw [← hp33]; rfl)) rc _ hR1 Tryd.underlying153 rfl (by rw [HRCL.out]; kernel_rfl) ?_)
          | ((with_reducible show wpList _ _ _ _ _ wr); refine alloc_row (w := wr) rfl 153 rfl rz 33 (fun _ => by kernel_rfl) (by kernel_rfl) ?_; intro v0 hW0 _ hG0 hz0; obtain ⟨G, eG⟩ : ∃ G, wr.heap.size = G := ⟨_, rfl⟩; rw [eG] at hW0 hz0 ⊢)
          | ((with_reducible show wpList _ _ _ _ _ v0); refine store_vro (w := v0) rfl 153 _ _ rfl G 153 33 rc (by rfl) (by rfl) hW0 HONE.out HRCL.out (by kernel_rfl) ?_; intro v1 hW1 hG1 hz1; have hLv1 : Below wr.heap.size wr v1 := below_new (below_none (Below.refl _ _) (Nat.le_refl _) hG0) (by omega) hG1 (by omega); have hCv1 := HC1.out.below hLv1; have cf1 := hCv1.sides)
          | ((with_reducible show wpList _ _ _ _ _ v1); refine load_vb (w := v1) rfl 153 _ rfl G 0 153 33 _ rc rc (by rfl) hW1 (by rw [List.drop_zero, List.take_of_length_le (by rw [HRCL.out]; exact Nat.le_refl _)]) HRCL.out Tryd.underlying153 rfl (by kernel_rfl) ?_)
          | (go_at_call 77; refine (HSd.out v1 hCv1).mono ?_; rintro e v2 ⟨rfl, hL2⟩; have hW2 := hW1.next hL2; have hLv2 := below_more hLv1 hL2 hLv1.size; have hz2 := hL2.size)
          | ((with_reducible show wpList _ _ _ _ _ v2); refine alloc_row (w := v2) rfl 41 rfl (.agg (Bs (List.replicate 16 0))) 16 (fun _ => by kernel_rfl) rfl ?_; intro v3 hR3 _ hG3 hz3; have hW3 := hW2.old hG3 (by simp); have hLv3 := below_none hLv2 (by omega) hG3; obtain ⟨H, eH⟩ : ∃ H, v2.heap.size = H := ⟨_, rfl⟩; rw [eH] at hR3 hz3 hz2 ⊢)
          | ((with_reducible show wpList _ _ _ _ _ v3); refine alloc_row (w := v3) rfl 41 rfl (.agg (Bs (List.replicate 16 0))) 16 (fun _ => by kernel_rfl) rfl ?_; intro v4 hR4 _ hG4 hz4; have hW4 := hW3.old hG4 (by simp); have hR34 := hR3.old hG4 (by simp); have hLv4 := below_none hLv3 (by omega) hG4; rw [hz3] at hR4 hz4 ⊢)
          | ((with_reducible show wpList _ _ _ _ _ v4); refine store_blk (w := v4) rfl 41 _ _ rfl H 41 16 rf (by rfl) (by rfl) hR34 HFL2.out (by kernel_rfl) ?_; intro v5 hB5 hG5 hz5; have hW5 := hW4.old hG5 (by simp; omega); have hR5 := hR4.old hG5 (by simp); have hLv5 := below_new hLv4 (by omega) hG5 (by omega))
          | ((with_reducible show wpList _ _ _ _ _ v5); refine store_blk (w := v5) rfl 41 _ _ rfl (H + 1) 41 16 rt (by rfl) (by rfl) hR5 HTL2.out (by kernel_rfl) ?_; intro v6 hB6 hG6 hz6; have hW6 := hW5.old hG6 (by simp; omega); have hF6 := hB5.old hG6 (by simp); have hLv6 := below_new hLv5 (by omega) hG6 (by omega); have hL6 : Below wr.heap.size wr v6 := hLv6; have cr6 := hW6.cell 0 _ HRC0.out; have hX6 := HX1.out.under hL6; have hC6 := HC1.out.below hL6; have ck6 := hC6.key; have hR6 := HR1.out.below hL6 HR1.out.lt)
          | ((with_reducible show wpList _ _ _ _ _ v6); refine load_blk_g (w := v6) rfl 41 _ rfl H 41 16 5 rf (by rfl) hF6 HFL2.out (by kernel_rfl) (by kernel_rfl) ?_)
          | ((with_reducible show wpList _ _ _ _ _ v6); refine load_blk_g (w := v6) rfl 41 _ rfl (N + 1 + 1) 41 16 5 x (by rfl) hX6 HX.out (by kernel_rfl) (by kernel_rfl) ?_)
          | ((with_reducible show wpList _ _ _ _ _ v6); refine load_blk (w := v6) rfl 41 _ rfl (H + 1) 41 16 5 rt (by rfl) hB6 HTL2.out (by kernel_rfl) (by kernel_rfl) ?_)
          | ((with_reducible show wpList _ _ _ _ _ v6); refine store_blk (w := v6) rfl 41 _ _ rfl (N + 1 + 1 + 1 + 1) 41 16 rt (by rfl) (by rfl) hR6 HTL2.out (by kernel_rfl) ?_; intro v7 hB7 hG7 hz7; obtain ⟨oc, hoc, _⟩ := hR6))
        refine ⟨⟨k + 1, HLT.out, by have := HLT.out; have := EL.out; have := HRL.out; rw [show wrap64 ((k : Int) + 1) = ((k + 1 : Nat) : Int) from by unfold wrap64; omega], fun j q2 hj hj2 => ?_, below_more HM.out hLv6 (by omega)⟩, by have := HLT.out; have := EL.out; have := HRL.out; rw [show wrap64 ((k : Int) + 1) = (k : Int) + 1 from by unfold wrap64; omega]; show L - ((k : Int) + 1).toNat < L - (k : Int).toNat; omega⟩
        by_cases e : j = k
        · subst e
          rw [HRK.out] at hj2
          injection hj2 with hj2
          rw [← hj2, HPQ.out]; rfl
        · exact HNO.out j q2 (by omega) hj2
      · go_wp2_with (first
          | ((with_reducible show wpList _ _ _ _ _ wr); refine wpList_load_mid (w := wr) rfl 153 _ rfl g (33 * k) (by first | rfl | (rw [← hp33]; rfl)) rc _ hR1 Tryd.underlying153 rfl (by rw [HRCL.out]; kernel_rfl) ?_)
          | ((with_reducible show wpList _ _ _ _ _ wr); refine alloc_row (w := wr) rfl 153 rfl rz 33 (fun _ => by kernel_rfl) (by kernel_rfl) ?_; intro v0 hW0 _ hG0 hz0; obtain ⟨G, eG⟩ : ∃ G, wr.heap.size = G := ⟨_, rfl⟩; rw [eG] at hW0 hz0 ⊢)
          | ((with_reducible show wpList _ _ _ _ _ v0); refine store_vro (w := v0) rfl 153 _ _ rfl G 153 33 rc (by rfl) (by rfl) hW0 HONE.out HRCL.out (by kernel_rfl) ?_; intro v1 hW1 hG1 hz1; have hLv1 : Below wr.heap.size wr v1 := below_new (below_none (Below.refl _ _) (Nat.le_refl _) hG0) (by omega) hG1 (by omega); have hCv1 := HC1.out.below hLv1; have cf1 := hCv1.sides)
          | ((with_reducible show wpList _ _ _ _ _ v1); refine load_vb (w := v1) rfl 153 _ rfl G 0 153 33 _ rc rc (by rfl) hW1 (by rw [List.drop_zero, List.take_of_length_le (by rw [HRCL.out]; exact Nat.le_refl _)]) HRCL.out Tryd.underlying153 rfl (by kernel_rfl) ?_)
          | (go_at_call 77; refine (HSd.out v1 hCv1).mono ?_; rintro e v2 ⟨rfl, hL2⟩; have hW2 := hW1.next hL2; have hLv2 := below_more hLv1 hL2 hLv1.size; have hz2 := hL2.size)
          | ((with_reducible show wpList _ _ _ _ _ v2); refine alloc_row (w := v2) rfl 41 rfl (.agg (Bs (List.replicate 16 0))) 16 (fun _ => by kernel_rfl) rfl ?_; intro v3 hR3 _ hG3 hz3; have hW3 := hW2.old hG3 (by simp); have hLv3 := below_none hLv2 (by omega) hG3; obtain ⟨H, eH⟩ : ∃ H, v2.heap.size = H := ⟨_, rfl⟩; rw [eH] at hR3 hz3 hz2 ⊢)
          | ((with_reducible show wpList _ _ _ _ _ v3); refine alloc_row (w := v3) rfl 41 rfl (.agg (Bs (List.replicate 16 0))) 16 (fun _ => by kernel_rfl) rfl ?_; intro v4 hR4 _ hG4 hz4; have hW4 := hW3.old hG4 (by simp); have hR34 := hR3.old hG4 (by simp); have hLv4 := below_none hLv3 (by omega) hG4; rw [hz3] at hR4 hz4 ⊢)
          | ((with_reducible show wpList _ _ _ _ _ v4); refine store_blk (w := v4) rfl 41 _ _ rfl H 41 16 rf (by rfl) (by rfl) hR34 HFL2.out (by kernel_rfl) ?_; intro v5 hB5 hG5 hz5; have hW5 := hW4.old hG5 (by simp; omega); have hR5 := hR4.old hG5 (by simp); have hLv5 := below_new hLv4 (by omega) hG5 (by omega))
          | ((with_reducible show wpList _ _ _ _ _ v5); refine store_blk (w := v5) rfl 41 _ _ rfl (H + 1) 41 16 rt (by rfl) (by rfl) hR5 HTL2.out (by kernel_rfl) ?_; intro v6 hB6 hG6 hz6; have hW6 := hW5.old hG6 (by simp; omega); have hF6 := hB5.old hG6 (by simp); have hLv6 := below_new hLv5 (by omega) hG6 (by omega); have hL6 : Below wr.heap.size wr v6 := hLv6; have cr6 := hW6.cell 0 _ HRC0.out; have hX6 := HX1.out.under hL6; have hC6 := HC1.out.below hL6; have ck6 := hC6.key; have hR6 := HR1.out.below hL6 HR1.out.lt)
          | ((with_reducible show wpList _ _ _ _ _ v6); refine load_blk_g (w := v6) rfl 41 _ rfl H 41 16 5 rf (by rfl) hF6 HFL2.out (by kernel_rfl) (by kernel_rfl) ?_)
          | ((with_reducible show wpList _ _ _ _ _ v6); refine load_blk_g (w := v6) rfl 41 _ rfl (N + 1 + 1) 41 16 5 x (by rfl) hX6 HX.out (by kernel_rfl) (by kernel_rfl) ?_)
          | ((with_reducible show wpList _ _ _ _ _ v6); refine load_blk (w := v6) rfl 41 _ rfl (H + 1) 41 16 5 rt (by rfl) hB6 HTL2.out (by kernel_rfl) (by kernel_rfl) ?_)
          | ((with_reducible show wpList _ _ _ _ _ v6); refine store_blk (w := v6) rfl 41 _ _ rfl (N + 1 + 1 + 1 + 1) 41 16 rt (by rfl) (by rfl) hR6 HTL2.out (by kernel_rfl) ?_; intro v7 hB7 hG7 hz7; obtain ⟨oc, hoc, _⟩ := hR6))
        have hRes : R = (rows, tp, some rt) := by
          rw [← HR.out]
          unfold pask
          rw [pfind_some HRK.out (by rw [HPQ.out]; rfl) HNO.out]
          show (rows, tp, some (rto back r)) = _
          rw [HERT.out]
        have hB6' := HB6.out.below (show Below w6.heap.size w6 v6 from by rw [HZ6.out]; exact below_more HM.out hLv6 (by omega))
        have hB7' := hB6'.apart hG7 hoc (by decide)
        have hM7 : Below N w v7 := below_new (below_more HM6.out (below_more HM.out hLv6 (by omega)) (by omega)) (by have := hLv6.size; omega) hG7 (by omega)
        refine bodyPost_ret (results_blk rfl _ _ (N + 1 + 1 + 1 + 1) 41 16 5 rt rfl hB7 HTL2.out (by kernel_rfl) (by kernel_rfl)) rfl ⟨?_, Fr.of_below (by rw [HN.out]; exact hM7), below_more (Below.refl B w) hM7 (by have := HBW.out; have := HN.out; omega)⟩
        rw [hRes]
        exact ⟨hB7', rt, _, rfl, HTL2.out, .inl ⟨rfl, rfl⟩⟩
    · have hik : ¬ (k : Int) < (L : Int) := by omega
      have HPN := Lib.hid (show pfind rows key x back = none from pfind_none fun j q hj => HNO.out j q (by have := (List.getElem?_eq_some_iff.1 hj).1; have := EL.out; omega) hj)
      have HB1 := Lib.hid (HB6.out.below HL6.out)
      have ca := (HA.out.next HL6.out).cell 0 _ rfl
      have HDr := Lib.hid (draw_any rows tp B gb gt N (N + 1 + 1 + 1 + 1 + 1) (N + 1 + 1 + 1) (N + 1) key back wr HB1.out (by have := HRL.out; omega) HTL.out ca HC1.out (by have := HGT.out; omega))
      obtain ⟨D, eD⟩ : ∃ D, pdraw (fun y => ptaken rows key y back) tp = D := ⟨_, rfl⟩
      rw [eD] at HDr
      have HD := Lib.hid eD
      obtain ⟨Do, Dt⟩ := D
      have hrw : wr.heap.size ≥ N + 6 := by have := HL6.out.size; have := HZ6.out; omega
      have HAr := Lib.hid (HA.out.next HL6.out)
      have HKr := Lib.hid (HK.out.next HL6.out)
      have HCr := Lib.hid (HC.out.next HL6.out)
      clear hlt eD
      cases Do with
      | none =>
        go_wp2_with (first
          | (go_at_call 78; refine HDr.out.mono ?_; rintro e v1 ⟨⟨hBk1, y, ve, rfl, hyl, hy⟩, hG1⟩; obtain ⟨aa, ha0, hE1⟩ := or_none hy; have HE1 := Lib.hid hE1; obtain ⟨eT, ex, rfl⟩ := hE1.form; have hR1' := HR1.out.old hG1 (by simp; have := HGT.out; omega); have hz1 := hG1.size)
          | ((with_reducible show wpList _ _ _ _ _ v1); refine alloc_row (w := v1) rfl 41 rfl (.agg (Bs (List.replicate 16 0))) 16 (fun _ => by kernel_rfl) rfl ?_; intro v2 hR2 _ hG2 hz2; obtain ⟨H, eH⟩ : ∃ H, v1.heap.size = H := ⟨_, rfl⟩; rw [eH] at hR2 hz2 hz1 ⊢)
          | ((with_reducible show wpList _ _ _ _ _ v2); refine store_blk (w := v2) rfl 41 _ _ rfl H 41 16 y (by rfl) (by rfl) hR2 hyl (by kernel_rfl) ?_; intro v3 hB3 hG3 hz3; have hL3 : Below v1.heap.size v1 v3 := below_new (below_none (Below.refl _ _) (Nat.le_refl _) hG2) (by omega) hG3 (by omega); have hR3 := hR1'.below hL3 hR1'.lt)
          | ((with_reducible show wpList _ _ _ _ _ v3); refine load_blk (w := v3) rfl 41 _ rfl H 41 16 5 y (by rfl) hB3 hyl (by kernel_rfl) (by kernel_rfl) ?_)
          | ((with_reducible show wpList _ _ _ _ _ v3); refine store_blk (w := v3) rfl 41 _ _ rfl (N + 1 + 1 + 1 + 1) 41 16 y (by rfl) (by rfl) hR3 hyl (by kernel_rfl) ?_; intro v4 hB4 hG4 hz4; obtain ⟨oc, hoc, _⟩ := hR3))
        have hRes : R = (rows, Dt, none) := by
          rw [← HR.out]
          unfold pask
          rw [HPN.out]
          show (match pdraw (fun y => ptaken rows key y back) tp with | (none, tp') => (rows, tp', none) | (some y, tp') => (rows ++ [mkrow key x y back], tp', some y)) = _
          rw [HD.out]
        have hBk4 := (hBk1.below hL3).apart hG4 hoc (by decide)
        have hE4 := erV_apart (HE1.out.below hL3) hG4 hoc (by decide)
        have hB0 := HBW.out
        have hn0 := HN.out
        have hF3 : Fr 3 w v3 := ((Fr.of_below (by rw [HN.out]; exact below_more HM6.out HM.out (by omega))).trans (Fr.of_tape HB1.out.tape hG1)).trans (Fr.of_below hL3)
        have hM1 : Below B w v1 := below_new (below_more (below_more (Below.refl B w) HM6.out (by omega)) HM.out (by omega)) (by omega) hG1 HB.out.hb.2
        have hM4 : Below B w v4 := below_new (below_more hM1 hL3 (by omega)) (by omega) hG4 (by omega)
        refine bodyPost_ret (results_blk rfl _ _ (N + 1 + 1 + 1 + 1) 41 16 5 y rfl hB4 hyl (by kernel_rfl) (by kernel_rfl)) rfl ⟨?_, hF3.new hG4 (by omega), hM4⟩
        rw [hRes]
        exact ⟨hBk4, y, _, rfl, hyl, .inr ⟨rfl, aa, ha0, hE4⟩⟩
      | some y =>
        cases back
        · go_wp2_with (first
            | (go_at_call 78; refine HDr.out.mono ?_; rintro e v1 ⟨⟨hBk1, y', ve, rfl, hyl, hy⟩, hG1⟩; obtain ⟨rfl, rfl⟩ := or_some hy; have hBk1' := Lib.hid hBk1; have hR1' := HR1.out.old hG1 (by simp; have := HGT.out; omega); have hz1 := hG1.size; have hA1 := HAr.out.old hG1 (by simp; have := HGT.out; omega); have hK1 := HKr.out.old hG1 (by simp; have := HGT.out; omega); have hC1 := HCr.out.old hG1 (by simp; have := HGT.out; omega); have hX1 := HX1.out.old hG1 (by simp; have := HGT.out; omega))
            | ((with_reducible show wpList _ _ _ _ _ v1); refine alloc_row (w := v1) rfl 41 rfl (.agg (Bs (List.replicate 16 0))) 16 (fun _ => by kernel_rfl) rfl ?_; intro v2 hR2 _ hG2 hz2; obtain ⟨H, eH⟩ : ∃ H, v1.heap.size = H := ⟨_, rfl⟩; rw [eH] at hR2 hz2 hz1 ⊢)
            | ((with_reducible show wpList _ _ _ _ _ v2); refine store_blk (w := v2) rfl 41 _ _ rfl H 41 16 y' (by rfl) (by rfl) hR2 hyl (by kernel_rfl) ?_; intro v3 hY3 hG3 hz3; have hL3 : Below v1.heap.size v1 v3 := below_new (below_none (Below.refl _ _) (Nat.le_refl _) hG2) (by omega) hG3 (by omega); have hK3 := hK1.next hL3; have ck3 := hK3.cell 0 _ rfl; have hX3 := hX1.under hL3; have hC3 := hC1.next hL3; have cc3 := hC3.cell 0 _ rfl)
            | ((with_reducible show wpList _ _ _ _ _ v3); refine load_blk (w := v3) rfl 41 _ rfl (N + 1 + 1) 41 16 5 x (by rfl) hX3 HX.out (by kernel_rfl) (by kernel_rfl) ?_)
            | ((with_reducible show wpList _ _ _ _ _ v3); refine load_blk (w := v3) rfl 41 _ rfl H 41 16 5 y' (by rfl) hY3 hyl (by kernel_rfl) (by kernel_rfl) ?_)
            | ((with_reducible show wpList _ _ _ _ _ v3); refine op_build3 (w := v3) rfl 153 _ _ _ rfl _ _ _ _ (by rfl) (by rfl) (by rfl) (build_row (ost key) x y' HX.out hyl) ?_)
            | ((with_reducible show wpList _ _ _ _ _ v3); refine alloc_row (w := v3) rfl 153 rfl rz 33 (fun _ => by kernel_rfl) (by kernel_rfl) ?_; intro v4 hW4 _ hG4 hz4; rw [hz3, hz2] at hW4 hz4 ⊢)
            | ((with_reducible show wpList _ _ _ _ _ v4); refine store_vro (w := v4) rfl 153 _ _ rfl (H + 1) 153 33 (.string (ost key) :: (Bl x ++ Bl y')) (by rfl) (by rfl) hW4 (rwc_one ⟨key, x, y'⟩) (rwc_len (r := ⟨key, x, y'⟩) ⟨HX.out, hyl⟩) (by kernel_rfl) ?_; intro v5 hW5 hG5 hz5; have hL5 : Below v1.heap.size v1 v5 := below_new (below_none hL3 (by omega) hG4) (by omega) hG5 (by omega); have hK5 := hK1.next hL5; have ck5 := hK5.cell 0 _ rfl; have hX5 := hX1.under hL5; have hC5 := hC1.next hL5; have cc5 := hC5.cell 0 _ rfl; have hA5 := hA1.next hL5; have ca5 := hA5.cell 0 _ rfl; have hY5 := (hY3.old hG4 (by simp)).old hG5 (by simp)))
          have hBV := hBk1'.out.below hL5
          have hVz : v5.heap.size = H + 2 := by omega
          have hcv : v5.cell? ⟨gb, 0, none⟩ = some (.slice A L c) := by
            have e1 : v1.heap[gb]? = wr.heap[gb]? := hG1.block gb (by have := HGB.out; omega) (by
              intro e
              obtain rfl : gb = gt := by simpa using e
              obtain ⟨u1, hu1, _⟩ := HB.out.tape
              have := HBK.out
              rw [hu1] at this
              injection this with this
              injection this with _ this _
              exact absurd this (by decide))
            have e2 := hL5.block gb (by have := HGB.out; omega)
            have e3 := HM.out.block gb (by have := HGB.out; omega)
            have e4 := HM6.out.block gb HGB.out
            unfold World.cell?
            rw [e2, e1, e3, e4, HBK.out]; rfl
          have hRes : R = (rows ++ [(⟨key, x, y'⟩ : Rw)], Dt, some y') := by
            rw [← HR.out]
            unfold pask
            rw [HPN.out]
            show (match pdraw (fun y => ptaken rows key y _) tp with | (none, tp') => (rows, tp', none) | (some y, tp') => (rows ++ [mkrow key x y _], tp', some y)) = _
            rw [HD.out]; rfl
          have hrok : rwOk (⟨key, x, y'⟩ : Rw) := ⟨HX.out, hyl⟩
          have hokall : ∀ q ∈ rows ++ [(⟨key, x, y'⟩ : Rw)], rwOk q := fun q hq => by
            rcases List.mem_append.1 hq with h | h
            · exact HOK.out q h
            · rw [List.mem_singleton.1 h]; exact hrok
          have hRB : OwnR v5 B (.slice A L c) rows := by
            obtain ⟨u2, hu2, hO2⟩ := hBV.book
            have : u2 = .slice A L c := by
              have h9 := hcv
              unfold World.cell? at h9
              rw [hu2] at h9
              simpa using h9
            rw [← this]; exact hO2
          have hRlt : ∀ q, (Value.slice A L c).ownBlock = some q → q < H := fun q hq => by
            have h1 := (HRR.out.typ q hq).2
            obtain ⟨cc, hcc⟩ := h1
            have := (Array.getElem?_eq_some_iff.1 hcc).1
            have := HN.out
            omega
          have hFV : Fr 3 w v5 := ((Fr.of_below (by rw [HN.out]; exact below_more HM6.out HM.out (by omega))).trans (Fr.of_tape HB1.out.tape hG1)).trans (Fr.of_below hL5)
          have hB0 := HBW.out
          have hn0 := HN.out
          have hMV : Below B w v5 := below_more (below_new (below_more (below_more (Below.refl B w) HM6.out (by omega)) HM.out (by omega)) (by omega) hG1 HB.out.hb.2) hL5 (by omega)
          have hRN := (HR1.out.old hG1 (by simp; have := HGT.out; omega)).below hL5 (by have := HR1.out.lt; omega)
          have hgbN : gb < N := HGB.out
          refine wp_region_held (S := fun w' => w'.cell? ⟨N, 0, none⟩ = some (.pointer (some ⟨gb, 0, none⟩)) ∧ VB w' (H + 1) 153 (.string (ost key) :: (Bl x ++ Bl y'))) (by kernel_rfl) ?_
          show wpAnyH _ _ _ _ _ 11 _ _ v5.drew
          have hS : v5.drew.cell? ⟨N, 0, none⟩ = some (.pointer (some ⟨gb, 0, none⟩)) ∧ VB v5.drew (H + 1) 153 (.string (ost key) :: (Bl x ++ Bl y')) := ⟨hA5.cell 0 _ rfl, hW5⟩
          have hYd : Blk v5.drew H 41 y' := hY5
          have hBd : BkAt v5.drew B gb gt rows Dt := hBV.below (below_drew _)
          have hcd : v5.drew.cell? ⟨gb, 0, none⟩ = some (.slice A L c) := hcv
          have hRd : OwnR v5.drew B (.slice A L c) rows := hRB.below (below_drew _)
          have hFd : Fr 3 w v5.drew := hFV.trans (Fr.of_below (below_drew _))
          have hMd : Below B w v5.drew := hMV.drew
          have hRNd : Row v5.drew (N + 1 + 1 + 1 + 1) 41 16 := hRN
          have hzd : v5.drew.heap.size = H + 2 := hVz
          have hAd : VB v5.drew N 24 [.pointer (some ⟨gb, 0, none⟩)] := hA5
          generalize v5.drew = u at hS hYd hBd hcd hRd hFd hMd hzd hRNd hAd ⊢
          refine tkl 0 64 rfl rfl (by kernel_rfl) idq (yields_cell (by kernel_rfl) (.pointer (some ⟨gb, 0, none⟩)) 24 _ rfl ⟨N, 0, none⟩ (by kernel_rfl) (fun w h => load_bp w _ _ h) (fun w' h => h.1)) hS ?_
          refine tkl 1 65 rfl rfl (by kernel_rfl) idq (yields_cell (by kernel_rfl) (.pointer (some ⟨gb, 0, none⟩)) 24 _ rfl ⟨N, 0, none⟩ (by kernel_rfl) (fun w h => load_bp w _ _ h) (fun w' h => h.1)) hS ?_
          refine tkw 2 66 rfl rfl (by kernel_rfl) (.pointer (some ⟨gb, 0, none⟩)) idq (fun _ => by kernel_rfl) hS ?_
          refine tkw 3 67 rfl rfl (by kernel_rfl) (.pointer (some ⟨gb, 0, none⟩)) idq (fun _ => by kernel_rfl) hS ?_
          refine tkl 5 69 rfl rfl (by kernel_rfl) idq (yields_vbO (by kernel_rfl) 153 _ rfl (H + 1) 0 153 33 _ (.string (ost key) :: (Bl x ++ Bl y')) (.string (ost key) :: (Bl x ++ Bl y')) (by kernel_rfl) (fun w' h => h.2) (by rw [List.drop_zero, List.take_of_length_le (by rw [show (.string (ost key) :: (Bl x ++ Bl y')).length = 33 from rwc_len hrok]; exact Nat.le_refl _)]) (rwc_len hrok) Tryd.underlying153 rfl (by kernel_rfl)) hS ?_
          refine anyH_two 4 6 (by kernel_rfl) ?_ ?_
          · refine ⟨wpOp_run rfl (by kernel_rfl) (.slice A L c) u (exec_load1 rwS _ rfl ⟨gb, 0, none⟩ (.slice A L c) (by kernel_rfl) (load_rws u _ _ hcd)) ⟨hS, ?_⟩⟩
            refine anyH_one 6 (by kernel_rfl) ?_
            refine ⟨wpOp_run rfl (by kernel_rfl) (.slice (some ⟨u.heap.size, 0, none⟩) 1 1) (u.alloc (.cells (.string (ost key) :: (Bl x ++ Bl y')).toArray rwT)) (exec_rows _ _ _ rfl (ost key) x y' HX.out hyl (by kernel_rfl) u) ?_⟩
            rw [hzd]
            have hLz : Below u.heap.size u (u.alloc (.cells (.string (ost key) :: (Bl x ++ Bl y')).toArray rwT)) := below_alloc (Below.refl _ _) (Nat.le_refl _) _
            have hVz2 : VB (u.alloc (.cells (.string (ost key) :: (Bl x ++ Bl y')).toArray rwT)) (H + 2) rwT (.string (ost key) :: (Bl x ++ Bl y')) := by rw [← hzd]; exact heap_alloc_new u _
            have hSz := (⟨cell_old hS.1 (grown_alloc (grown_refl u none) (.cells (.string (ost key) :: (Bl x ++ Bl y')).toArray rwT)) (by simp), hS.2.alloc _⟩ : (u.alloc (.cells (.string (ost key) :: (Bl x ++ Bl y')).toArray rwT)).cell? ⟨N, 0, none⟩ = some (.pointer (some ⟨gb, 0, none⟩)) ∧ VB (u.alloc (.cells (.string (ost key) :: (Bl x ++ Bl y')).toArray rwT)) (H + 1) 153 (.string (ost key) :: (Bl x ++ Bl y')))
            have hBz := hBd.below hLz
            have hcz := cell_old hcd (grown_alloc (grown_refl u none) (.cells (.string (ost key) :: (Bl x ++ Bl y')).toArray rwT)) (by simp)
            have hRz := hRd.below hLz
            have hFz := hFd.trans (Fr.of_below hLz)
            have hMz := below_more hMd hLz (by have := hMd.size; omega)
            have hRNz := hRNd.below hLz hRNd.lt
            have hYz := hYd.under hLz
            have hAz := hAd.next hLz
            have hzz : (u.alloc (.cells (.string (ost key) :: (Bl x ++ Bl y')).toArray rwT)).heap.size = H + 3 := by show (u.heap.push _).size = _; simp; omega
            generalize u.alloc (.cells (.string (ost key) :: (Bl x ++ Bl y')).toArray rwT) = z7 at hLz hVz2 hSz hBz hcz hRz hFz hMz hRNz hYz hAz hzz ⊢
            refine ⟨hSz, ?_⟩
            refine anyH_one 7 (by kernel_rfl) ?_
            refine ⟨wpOp_append_r rfl (by kernel_rfl) hu_rws hi_rwt _ _ rfl B (.slice A L c) rows (by kernel_rfl) hRz (H + 2) (⟨key, x, y'⟩ : Rw) hrok (by kernel_rfl) hVz2 HRL.out (by have := hMz.size; omega) ?_⟩
            intro v8 z8 hO8 hG8
            have hob : ∀ q, (Value.slice A L c).ownBlock = some q → q < H ∧ B ≤ q ∧ ∃ cc, z7.heap[q]? = some (.cells cc rwT (0, 0)) := fun q hq => ⟨hRlt q hq, (hRz.typ q hq).1, (hRz.typ q hq).2⟩
            have hneN : (Value.slice A L c).ownBlock ≠ some N := by
              intro e
              obtain ⟨h1, h2, cc, h3⟩ := hob N e
              have hAz' := hAz
              unfold VB at hAz'
              rw [hAz'] at h3
              injection h3 with h3
              injection h3 with _ h3 _
              exact absurd h3 (by decide)
            have hneG : (Value.slice A L c).ownBlock ≠ some gb := by
              intro e
              obtain ⟨u1, hu1, _⟩ := hBz.book
              obtain ⟨_, _, cc, h3⟩ := hob gb e
              rw [hu1] at h3
              injection h3 with h3
              injection h3 with _ h3 _
              exact absurd h3 (by decide)
            have hneH : (Value.slice A L c).ownBlock ≠ some (H + 1) := by intro e; have := (hob (H + 1) e).1; omega
            have hS8 : z8.cell? ⟨N, 0, none⟩ = some (.pointer (some ⟨gb, 0, none⟩)) ∧ VB z8 (H + 1) 153 (.string (ost key) :: (Bl x ++ Bl y')) := ⟨cell_old hSz.1 hG8 hneN, hSz.2.old hG8 hneH⟩
            refine ⟨hS8, ?_⟩
            refine tkw 8 72 rfl rfl (by kernel_rfl) (.pointer (some ⟨gb, 0, none⟩)) idq (fun _ => by kernel_rfl) hS8 ?_
            refine tkw 9 73 rfl rfl (by kernel_rfl) (.pointer (some ⟨gb, 0, none⟩)) idq (fun _ => by kernel_rfl) hS8 ?_
            obtain ⟨hBk9, hF9, hM9⟩ := hBz.put hcz (by have := hMz.size; omega) hG8 hO8 hokall
            obtain ⟨u9, hu9, _⟩ := hBz.book
            have hc8 : z8.heap[gb]? = some (.cells #[u9, .pointer (some ⟨gt, 0, none⟩)] bkT (0, 0)) := (hG8.block gb (by have := (Array.getElem?_eq_some_iff.1 hu9).1; exact this) (fun e => hneG e.symm)).trans hu9
            refine anyH_one 10 (by kernel_rfl) ?_
            refine ⟨wpOp_store1 rfl (by kernel_rfl) rwS _ _ rfl gb 0 v8 u9 (by kernel_rfl) (by kernel_rfl) (by rcases hO8.formc with ⟨A8, c8, rfl⟩; rfl) (by unfold World.cell?; rw [hc8]; rfl) (by unfold World.frozen?; rw [hc8]; rfl) (by kernel_rfl) ?_⟩
            have hSs : z8.grownBy (z8.setCell ⟨gb, 0, none⟩ v8) (some gb) := grown_set (grown_refl _ _) _ _
            refine ⟨⟨cell_old hS8.1 hSs (by simp; omega), hS8.2.old hSs (by simp; omega)⟩, ?_⟩
            have hY9 := hYz.fr (by unfold TyOk; decide) hF9
            have hR9 : Row (z8.setCell ⟨gb, 0, none⟩ v8) (N + 1 + 1 + 1 + 1) 41 16 := by
              obtain ⟨old, hg, hs⟩ := hRNz
              exact ⟨old, hF9.keeps _ _ hg (fun _ => ⟨_, _, _, rfl, by unfold TyOk; decide⟩), hs⟩
            have hF9w := hFz.trans hF9
            have hM9w := below_more hMz hM9 (Nat.le_refl _)
            generalize z8.setCell ⟨gb, 0, none⟩ v8 = z9 at hBk9 hF9w hM9w hY9 hR9 ⊢
            clear hS8 hSs hc8 hu9 hG8 hO8 hF9 hM9
            refine wpAnyH_done (by kernel_rfl) ?_ _
            simp only [Act.put, List.setIfInBounds_toArray, List.set_cons_succ, List.set_cons_zero]
            go_wp2_with (first
              | ((with_reducible show wpList _ _ _ _ _ z9); refine load_blk (w := z9) rfl 41 _ rfl H 41 16 5 y' (by rfl) hY9 hyl (by kernel_rfl) (by kernel_rfl) ?_)
              | ((with_reducible show wpList _ _ _ _ _ z9); refine store_blk (w := z9) rfl 41 _ _ rfl (N + 1 + 1 + 1 + 1) 41 16 y' (by rfl) (by rfl) hR9 hyl (by kernel_rfl) ?_; intro z10 hB10 hG10 hz10; obtain ⟨oc, hoc, _⟩ := hR9))
            refine bodyPost_ret (results_blk rfl _ _ (N + 1 + 1 + 1 + 1) 41 16 5 y' rfl hB10 hyl (by kernel_rfl) (by kernel_rfl)) rfl ⟨?_, hF9w.new hG10 (by omega), below_new hM9w (by have := hM9w.size; omega) hG10 (by omega)⟩
            rw [hRes]
            exact ⟨hBk9.apart hG10 hoc (by decide), y', _, rfl, hyl, .inl ⟨rfl, rfl⟩⟩
          · refine ⟨wpOp_run rfl (by kernel_rfl) (.slice (some ⟨u.heap.size, 0, none⟩) 1 1) (u.alloc (.cells (.string (ost key) :: (Bl x ++ Bl y')).toArray rwT)) (exec_rows _ _ _ rfl (ost key) x y' HX.out hyl (by kernel_rfl) u) ?_⟩
            rw [hzd]
            have hLz : Below u.heap.size u (u.alloc (.cells (.string (ost key) :: (Bl x ++ Bl y')).toArray rwT)) := below_alloc (Below.refl _ _) (Nat.le_refl _) _
            have hVz2 : VB (u.alloc (.cells (.string (ost key) :: (Bl x ++ Bl y')).toArray rwT)) (H + 2) rwT (.string (ost key) :: (Bl x ++ Bl y')) := by rw [← hzd]; exact heap_alloc_new u _
            have hSz := (⟨cell_old hS.1 (grown_alloc (grown_refl u none) (.cells (.string (ost key) :: (Bl x ++ Bl y')).toArray rwT)) (by simp), hS.2.alloc _⟩ : (u.alloc (.cells (.string (ost key) :: (Bl x ++ Bl y')).toArray rwT)).cell? ⟨N, 0, none⟩ = some (.pointer (some ⟨gb, 0, none⟩)) ∧ VB (u.alloc (.cells (.string (ost key) :: (Bl x ++ Bl y')).toArray rwT)) (H + 1) 153 (.string (ost key) :: (Bl x ++ Bl y')))
            have hBz := hBd.below hLz
            have hcz := cell_old hcd (grown_alloc (grown_refl u none) (.cells (.string (ost key) :: (Bl x ++ Bl y')).toArray rwT)) (by simp)
            have hRz := hRd.below hLz
            have hFz := hFd.trans (Fr.of_below hLz)
            have hMz := below_more hMd hLz (by have := hMd.size; omega)
            have hRNz := hRNd.below hLz hRNd.lt
            have hYz := hYd.under hLz
            have hAz := hAd.next hLz
            have hzz : (u.alloc (.cells (.string (ost key) :: (Bl x ++ Bl y')).toArray rwT)).heap.size = H + 3 := by show (u.heap.push _).size = _; simp; omega
            generalize u.alloc (.cells (.string (ost key) :: (Bl x ++ Bl y')).toArray rwT) = z7 at hLz hVz2 hSz hBz hcz hRz hFz hMz hRNz hYz hAz hzz ⊢
            refine ⟨hSz, ?_⟩
            refine anyH_one 4 (by kernel_rfl) ?_
            refine ⟨wpOp_run rfl (by kernel_rfl) (.slice A L c) z7 (exec_load1 rwS _ rfl ⟨gb, 0, none⟩ (.slice A L c) (by kernel_rfl) (load_rws z7 _ _ hcz)) ⟨hSz, ?_⟩⟩
            refine anyH_one 7 (by kernel_rfl) ?_
            refine ⟨wpOp_append_r rfl (by kernel_rfl) hu_rws hi_rwt _ _ rfl B (.slice A L c) rows (by kernel_rfl) hRz (H + 2) (⟨key, x, y'⟩ : Rw) hrok (by kernel_rfl) hVz2 HRL.out (by have := hMz.size; omega) ?_⟩
            intro v8 z8 hO8 hG8
            have hob : ∀ q, (Value.slice A L c).ownBlock = some q → q < H ∧ B ≤ q ∧ ∃ cc, z7.heap[q]? = some (.cells cc rwT (0, 0)) := fun q hq => ⟨hRlt q hq, (hRz.typ q hq).1, (hRz.typ q hq).2⟩
            have hneN : (Value.slice A L c).ownBlock ≠ some N := by
              intro e
              obtain ⟨h1, h2, cc, h3⟩ := hob N e
              have hAz' := hAz
              unfold VB at hAz'
              rw [hAz'] at h3
              injection h3 with h3
              injection h3 with _ h3 _
              exact absurd h3 (by decide)
            have hneG : (Value.slice A L c).ownBlock ≠ some gb := by
              intro e
              obtain ⟨u1, hu1, _⟩ := hBz.book
              obtain ⟨_, _, cc, h3⟩ := hob gb e
              rw [hu1] at h3
              injection h3 with h3
              injection h3 with _ h3 _
              exact absurd h3 (by decide)
            have hneH : (Value.slice A L c).ownBlock ≠ some (H + 1) := by intro e; have := (hob (H + 1) e).1; omega
            have hS8 : z8.cell? ⟨N, 0, none⟩ = some (.pointer (some ⟨gb, 0, none⟩)) ∧ VB z8 (H + 1) 153 (.string (ost key) :: (Bl x ++ Bl y')) := ⟨cell_old hSz.1 hG8 hneN, hSz.2.old hG8 hneH⟩
            refine ⟨hS8, ?_⟩
            refine tkw 8 72 rfl rfl (by kernel_rfl) (.pointer (some ⟨gb, 0, none⟩)) idq (fun _ => by kernel_rfl) hS8 ?_
            refine tkw 9 73 rfl rfl (by kernel_rfl) (.pointer (some ⟨gb, 0, none⟩)) idq (fun _ => by kernel_rfl) hS8 ?_
            obtain ⟨hBk9, hF9, hM9⟩ := hBz.put hcz (by have := hMz.size; omega) hG8 hO8 hokall
            obtain ⟨u9, hu9, _⟩ := hBz.book
            have hc8 : z8.heap[gb]? = some (.cells #[u9, .pointer (some ⟨gt, 0, none⟩)] bkT (0, 0)) := (hG8.block gb (by have := (Array.getElem?_eq_some_iff.1 hu9).1; exact this) (fun e => hneG e.symm)).trans hu9
            refine anyH_one 10 (by kernel_rfl) ?_
            refine ⟨wpOp_store1 rfl (by kernel_rfl) rwS _ _ rfl gb 0 v8 u9 (by kernel_rfl) (by kernel_rfl) (by rcases hO8.formc with ⟨A8, c8, rfl⟩; rfl) (by unfold World.cell?; rw [hc8]; rfl) (by unfold World.frozen?; rw [hc8]; rfl) (by kernel_rfl) ?_⟩
            have hSs : z8.grownBy (z8.setCell ⟨gb, 0, none⟩ v8) (some gb) := grown_set (grown_refl _ _) _ _
            refine ⟨⟨cell_old hS8.1 hSs (by simp; omega), hS8.2.old hSs (by simp; omega)⟩, ?_⟩
            have hY9 := hYz.fr (by unfold TyOk; decide) hF9
            have hR9 : Row (z8.setCell ⟨gb, 0, none⟩ v8) (N + 1 + 1 + 1 + 1) 41 16 := by
              obtain ⟨old, hg, hs⟩ := hRNz
              exact ⟨old, hF9.keeps _ _ hg (fun _ => ⟨_, _, _, rfl, by unfold TyOk; decide⟩), hs⟩
            have hF9w := hFz.trans hF9
            have hM9w := below_more hMz hM9 (Nat.le_refl _)
            generalize z8.setCell ⟨gb, 0, none⟩ v8 = z9 at hBk9 hF9w hM9w hY9 hR9 ⊢
            clear hS8 hSs hc8 hu9 hG8 hO8 hF9 hM9
            refine wpAnyH_done (by kernel_rfl) ?_ _
            simp only [Act.put, List.setIfInBounds_toArray, List.set_cons_succ, List.set_cons_zero]
            go_wp2_with (first
              | ((with_reducible show wpList _ _ _ _ _ z9); refine load_blk (w := z9) rfl 41 _ rfl H 41 16 5 y' (by rfl) hY9 hyl (by kernel_rfl) (by kernel_rfl) ?_)
              | ((with_reducible show wpList _ _ _ _ _ z9); refine store_blk (w := z9) rfl 41 _ _ rfl (N + 1 + 1 + 1 + 1) 41 16 y' (by rfl) (by rfl) hR9 hyl (by kernel_rfl) ?_; intro z10 hB10 hG10 hz10; obtain ⟨oc, hoc, _⟩ := hR9))
            refine bodyPost_ret (results_blk rfl _ _ (N + 1 + 1 + 1 + 1) 41 16 5 y' rfl hB10 hyl (by kernel_rfl) (by kernel_rfl)) rfl ⟨?_, hF9w.new hG10 (by omega), below_new hM9w (by have := hM9w.size; omega) hG10 (by omega)⟩
            rw [hRes]
            exact ⟨hBk9.apart hG10 hoc (by decide), y', _, rfl, hyl, .inl ⟨rfl, rfl⟩⟩
        · go_wp2_with (first
            | (go_at_call 78; refine HDr.out.mono ?_; rintro e v1 ⟨⟨hBk1, y', ve, rfl, hyl, hy⟩, hG1⟩; obtain ⟨rfl, rfl⟩ := or_some hy; have hBk1' := Lib.hid hBk1; have hR1' := HR1.out.old hG1 (by simp; have := HGT.out; omega); have hz1 := hG1.size; have hA1 := HAr.out.old hG1 (by simp; have := HGT.out; omega); have hK1 := HKr.out.old hG1 (by simp; have := HGT.out; omega); have hC1 := HCr.out.old hG1 (by simp; have := HGT.out; omega); have hX1 := HX1.out.old hG1 (by simp; have := HGT.out; omega))
            | ((with_reducible show wpList _ _ _ _ _ v1); refine alloc_row (w := v1) rfl 41 rfl (.agg (Bs (List.replicate 16 0))) 16 (fun _ => by kernel_rfl) rfl ?_; intro v2 hR2 _ hG2 hz2; obtain ⟨H, eH⟩ : ∃ H, v1.heap.size = H := ⟨_, rfl⟩; rw [eH] at hR2 hz2 hz1 ⊢)
            | ((with_reducible show wpList _ _ _ _ _ v2); refine store_blk (w := v2) rfl 41 _ _ rfl H 41 16 y' (by rfl) (by rfl) hR2 hyl (by kernel_rfl) ?_; intro v3 hY3 hG3 hz3; have hL3 : Below v1.heap.size v1 v3 := below_new (below_none (Below.refl _ _) (Nat.le_refl _) hG2) (by omega) hG3 (by omega); have hK3 := hK1.next hL3; have ck3 := hK3.cell 0 _ rfl; have hX3 := hX1.under hL3; have hC3 := hC1.next hL3; have cc3 := hC3.cell 0 _ rfl)
            | ((with_reducible show wpList _ _ _ _ _ v3); refine load_blk (w := v3) rfl 41 _ rfl (N + 1 + 1) 41 16 5 x (by rfl) hX3 HX.out (by kernel_rfl) (by kernel_rfl) ?_)
            | ((with_reducible show wpList _ _ _ _ _ v3); refine load_blk (w := v3) rfl 41 _ rfl H 41 16 5 y' (by rfl) hY3 hyl (by kernel_rfl) (by kernel_rfl) ?_)
            | ((with_reducible show wpList _ _ _ _ _ v3); refine op_build3 (w := v3) rfl 153 _ _ _ rfl _ _ _ _ (by rfl) (by rfl) (by rfl) (build_row (ost key) x y' HX.out hyl) ?_)
            | ((with_reducible show wpList _ _ _ _ _ v3); refine alloc_row (w := v3) rfl 153 rfl rz 33 (fun _ => by kernel_rfl) (by kernel_rfl) ?_; intro v4 hW4 _ hG4 hz4; rw [hz3, hz2] at hW4 hz4 ⊢)
            | ((with_reducible show wpList _ _ _ _ _ v4); refine store_vro (w := v4) rfl 153 _ _ rfl (H + 1) 153 33 (.string (ost key) :: (Bl x ++ Bl y')) (by rfl) (by rfl) hW4 (rwc_one ⟨key, x, y'⟩) (rwc_len (r := ⟨key, x, y'⟩) ⟨HX.out, hyl⟩) (by kernel_rfl) ?_; intro v5 hW5 hG5 hz5; have hL5 : Below v1.heap.size v1 v5 := below_new (below_none hL3 (by omega) hG4) (by omega) hG5 (by omega); have hK5 := hK1.next hL5; have ck5 := hK5.cell 0 _ rfl; have hX5 := hX1.under hL5; have hC5 := hC1.next hL5; have cc5 := hC5.cell 0 _ rfl; have hA5 := hA1.next hL5; have ca5 := hA5.cell 0 _ rfl; have hY5 := (hY3.old hG4 (by simp)).old hG5 (by simp))
            | ((with_reducible show wpList _ _ _ _ _ v5); refine load_blk (w := v5) rfl 41 _ rfl H 41 16 5 y' (by rfl) hY5 hyl (by kernel_rfl) (by kernel_rfl) ?_)
            | ((with_reducible show wpList _ _ _ _ _ v5); refine load_blk (w := v5) rfl 41 _ rfl (N + 1 + 1) 41 16 5 x (by rfl) hX5 HX.out (by kernel_rfl) (by kernel_rfl) ?_)
            | ((with_reducible show wpList _ _ _ _ _ v5); refine op_build3 (w := v5) rfl 153 _ _ _ rfl _ _ _ _ (by rfl) (by rfl) (by rfl) (build_row (ost key) y' x hyl HX.out) ?_)
            | ((with_reducible show wpList _ _ _ _ _ v5); refine store_vro (w := v5) rfl 153 _ _ rfl (H + 1) 153 33 (.string (ost key) :: (Bl y' ++ Bl x)) (by rfl) (by rfl) (hW5.row (rwc_len (r := ⟨key, x, y'⟩) ⟨HX.out, hyl⟩)) (rwc_one ⟨key, y', x⟩) (rwc_len (r := ⟨key, y', x⟩) ⟨hyl, HX.out⟩) (by kernel_rfl) ?_; intro v6 hW6 hG6 hz6; have hL6 : Below v1.heap.size v1 v6 := below_new hL5 (by omega) hG6 (by omega); have hA6 := hA1.next hL6; have ca6 := hA6.cell 0 _ rfl; have hY6 := hY5.old hG6 (by simp)))
          have hBV := hBk1'.out.below hL6
          have hVz : v6.heap.size = H + 2 := by omega
          have hcv : v6.cell? ⟨gb, 0, none⟩ = some (.slice A L c) := by
            have e1 : v1.heap[gb]? = wr.heap[gb]? := hG1.block gb (by have := HGB.out; omega) (by
              intro e
              obtain rfl : gb = gt := by simpa using e
              obtain ⟨u1, hu1, _⟩ := HB.out.tape
              have := HBK.out
              rw [hu1] at this
              injection this with this
              injection this with _ this _
              exact absurd this (by decide))
            have e2 := hL6.block gb (by have := HGB.out; omega)
            have e3 := HM.out.block gb (by have := HGB.out; omega)
            have e4 := HM6.out.block gb HGB.out
            unfold World.cell?
            rw [e2, e1, e3, e4, HBK.out]; rfl
          have hRes : R = (rows ++ [(⟨key, y', x⟩ : Rw)], Dt, some y') := by
            rw [← HR.out]
            unfold pask
            rw [HPN.out]
            show (match pdraw (fun y => ptaken rows key y _) tp with | (none, tp') => (rows, tp', none) | (some y, tp') => (rows ++ [mkrow key x y _], tp', some y)) = _
            rw [HD.out]; rfl
          have hrok : rwOk (⟨key, y', x⟩ : Rw) := ⟨hyl, HX.out⟩
          have hokall : ∀ q ∈ rows ++ [(⟨key, y', x⟩ : Rw)], rwOk q := fun q hq => by
            rcases List.mem_append.1 hq with h | h
            · exact HOK.out q h
            · rw [List.mem_singleton.1 h]; exact hrok
          have hRB : OwnR v6 B (.slice A L c) rows := by
            obtain ⟨u2, hu2, hO2⟩ := hBV.book
            have : u2 = .slice A L c := by
              have h9 := hcv
              unfold World.cell? at h9
              rw [hu2] at h9
              simpa using h9
            rw [← this]; exact hO2
          have hRlt : ∀ q, (Value.slice A L c).ownBlock = some q → q < H := fun q hq => by
            have h1 := (HRR.out.typ q hq).2
            obtain ⟨cc, hcc⟩ := h1
            have := (Array.getElem?_eq_some_iff.1 hcc).1
            have := HN.out
            omega
          have hFV : Fr 3 w v6 := ((Fr.of_below (by rw [HN.out]; exact below_more HM6.out HM.out (by omega))).trans (Fr.of_tape HB1.out.tape hG1)).trans (Fr.of_below hL6)
          have hB0 := HBW.out
          have hn0 := HN.out
          have hMV : Below B w v6 := below_more (below_new (below_more (below_more (Below.refl B w) HM6.out (by omega)) HM.out (by omega)) (by omega) hG1 HB.out.hb.2) hL6 (by omega)
          have hRN := (HR1.out.old hG1 (by simp; have := HGT.out; omega)).below hL6 (by have := HR1.out.lt; omega)
          have hgbN : gb < N := HGB.out
          refine wp_region_held (S := fun w' => w'.cell? ⟨N, 0, none⟩ = some (.pointer (some ⟨gb, 0, none⟩)) ∧ VB w' (H + 1) 153 (.string (ost key) :: (Bl y' ++ Bl x))) (by kernel_rfl) ?_
          show wpAnyH _ _ _ _ _ 11 _ _ v6.drew
          have hS : v6.drew.cell? ⟨N, 0, none⟩ = some (.pointer (some ⟨gb, 0, none⟩)) ∧ VB v6.drew (H + 1) 153 (.string (ost key) :: (Bl y' ++ Bl x)) := ⟨hA6.cell 0 _ rfl, hW6⟩
          have hYd : Blk v6.drew H 41 y' := hY6
          have hBd : BkAt v6.drew B gb gt rows Dt := hBV.below (below_drew _)
          have hcd : v6.drew.cell? ⟨gb, 0, none⟩ = some (.slice A L c) := hcv
          have hRd : OwnR v6.drew B (.slice A L c) rows := hRB.below (below_drew _)
          have hFd : Fr 3 w v6.drew := hFV.trans (Fr.of_below (below_drew _))
          have hMd : Below B w v6.drew := hMV.drew
          have hRNd : Row v6.drew (N + 1 + 1 + 1 + 1) 41 16 := hRN
          have hzd : v6.drew.heap.size = H + 2 := hVz
          have hAd : VB v6.drew N 24 [.pointer (some ⟨gb, 0, none⟩)] := hA6
          generalize v6.drew = u at hS hYd hBd hcd hRd hFd hMd hzd hRNd hAd ⊢
          refine tkl 0 64 rfl rfl (by kernel_rfl) idq (yields_cell (by kernel_rfl) (.pointer (some ⟨gb, 0, none⟩)) 24 _ rfl ⟨N, 0, none⟩ (by kernel_rfl) (fun w h => load_bp w _ _ h) (fun w' h => h.1)) hS ?_
          refine tkl 1 65 rfl rfl (by kernel_rfl) idq (yields_cell (by kernel_rfl) (.pointer (some ⟨gb, 0, none⟩)) 24 _ rfl ⟨N, 0, none⟩ (by kernel_rfl) (fun w h => load_bp w _ _ h) (fun w' h => h.1)) hS ?_
          refine tkw 2 66 rfl rfl (by kernel_rfl) (.pointer (some ⟨gb, 0, none⟩)) idq (fun _ => by kernel_rfl) hS ?_
          refine tkw 3 67 rfl rfl (by kernel_rfl) (.pointer (some ⟨gb, 0, none⟩)) idq (fun _ => by kernel_rfl) hS ?_
          refine tkl 5 69 rfl rfl (by kernel_rfl) idq (yields_vbO (by kernel_rfl) 153 _ rfl (H + 1) 0 153 33 _ (.string (ost key) :: (Bl y' ++ Bl x)) (.string (ost key) :: (Bl y' ++ Bl x)) (by kernel_rfl) (fun w' h => h.2) (by rw [List.drop_zero, List.take_of_length_le (by rw [show (.string (ost key) :: (Bl y' ++ Bl x)).length = 33 from rwc_len hrok]; exact Nat.le_refl _)]) (rwc_len hrok) Tryd.underlying153 rfl (by kernel_rfl)) hS ?_
          refine anyH_two 4 6 (by kernel_rfl) ?_ ?_
          · refine ⟨wpOp_run rfl (by kernel_rfl) (.slice A L c) u (exec_load1 rwS _ rfl ⟨gb, 0, none⟩ (.slice A L c) (by kernel_rfl) (load_rws u _ _ hcd)) ⟨hS, ?_⟩⟩
            refine anyH_one 6 (by kernel_rfl) ?_
            refine ⟨wpOp_run rfl (by kernel_rfl) (.slice (some ⟨u.heap.size, 0, none⟩) 1 1) (u.alloc (.cells (.string (ost key) :: (Bl y' ++ Bl x)).toArray rwT)) (exec_rows _ _ _ rfl (ost key) y' x hyl HX.out (by kernel_rfl) u) ?_⟩
            rw [hzd]
            have hLz : Below u.heap.size u (u.alloc (.cells (.string (ost key) :: (Bl y' ++ Bl x)).toArray rwT)) := below_alloc (Below.refl _ _) (Nat.le_refl _) _
            have hVz2 : VB (u.alloc (.cells (.string (ost key) :: (Bl y' ++ Bl x)).toArray rwT)) (H + 2) rwT (.string (ost key) :: (Bl y' ++ Bl x)) := by rw [← hzd]; exact heap_alloc_new u _
            have hSz := (⟨cell_old hS.1 (grown_alloc (grown_refl u none) (.cells (.string (ost key) :: (Bl y' ++ Bl x)).toArray rwT)) (by simp), hS.2.alloc _⟩ : (u.alloc (.cells (.string (ost key) :: (Bl y' ++ Bl x)).toArray rwT)).cell? ⟨N, 0, none⟩ = some (.pointer (some ⟨gb, 0, none⟩)) ∧ VB (u.alloc (.cells (.string (ost key) :: (Bl y' ++ Bl x)).toArray rwT)) (H + 1) 153 (.string (ost key) :: (Bl y' ++ Bl x)))
            have hBz := hBd.below hLz
            have hcz := cell_old hcd (grown_alloc (grown_refl u none) (.cells (.string (ost key) :: (Bl y' ++ Bl x)).toArray rwT)) (by simp)
            have hRz := hRd.below hLz
            have hFz := hFd.trans (Fr.of_below hLz)
            have hMz := below_more hMd hLz (by have := hMd.size; omega)
            have hRNz := hRNd.below hLz hRNd.lt
            have hYz := hYd.under hLz
            have hAz := hAd.next hLz
            have hzz : (u.alloc (.cells (.string (ost key) :: (Bl y' ++ Bl x)).toArray rwT)).heap.size = H + 3 := by show (u.heap.push _).size = _; simp; omega
            generalize u.alloc (.cells (.string (ost key) :: (Bl y' ++ Bl x)).toArray rwT) = z7 at hLz hVz2 hSz hBz hcz hRz hFz hMz hRNz hYz hAz hzz ⊢
            refine ⟨hSz, ?_⟩
            refine anyH_one 7 (by kernel_rfl) ?_
            refine ⟨wpOp_append_r rfl (by kernel_rfl) hu_rws hi_rwt _ _ rfl B (.slice A L c) rows (by kernel_rfl) hRz (H + 2) (⟨key, y', x⟩ : Rw) hrok (by kernel_rfl) hVz2 HRL.out (by have := hMz.size; omega) ?_⟩
            intro v8 z8 hO8 hG8
            have hob : ∀ q, (Value.slice A L c).ownBlock = some q → q < H ∧ B ≤ q ∧ ∃ cc, z7.heap[q]? = some (.cells cc rwT (0, 0)) := fun q hq => ⟨hRlt q hq, (hRz.typ q hq).1, (hRz.typ q hq).2⟩
            have hneN : (Value.slice A L c).ownBlock ≠ some N := by
              intro e
              obtain ⟨h1, h2, cc, h3⟩ := hob N e
              have hAz' := hAz
              unfold VB at hAz'
              rw [hAz'] at h3
              injection h3 with h3
              injection h3 with _ h3 _
              exact absurd h3 (by decide)
            have hneG : (Value.slice A L c).ownBlock ≠ some gb := by
              intro e
              obtain ⟨u1, hu1, _⟩ := hBz.book
              obtain ⟨_, _, cc, h3⟩ := hob gb e
              rw [hu1] at h3
              injection h3 with h3
              injection h3 with _ h3 _
              exact absurd h3 (by decide)
            have hneH : (Value.slice A L c).ownBlock ≠ some (H + 1) := by intro e; have := (hob (H + 1) e).1; omega
            have hS8 : z8.cell? ⟨N, 0, none⟩ = some (.pointer (some ⟨gb, 0, none⟩)) ∧ VB z8 (H + 1) 153 (.string (ost key) :: (Bl y' ++ Bl x)) := ⟨cell_old hSz.1 hG8 hneN, hSz.2.old hG8 hneH⟩
            refine ⟨hS8, ?_⟩
            refine tkw 8 72 rfl rfl (by kernel_rfl) (.pointer (some ⟨gb, 0, none⟩)) idq (fun _ => by kernel_rfl) hS8 ?_
            refine tkw 9 73 rfl rfl (by kernel_rfl) (.pointer (some ⟨gb, 0, none⟩)) idq (fun _ => by kernel_rfl) hS8 ?_
            obtain ⟨hBk9, hF9, hM9⟩ := hBz.put hcz (by have := hMz.size; omega) hG8 hO8 hokall
            obtain ⟨u9, hu9, _⟩ := hBz.book
            have hc8 : z8.heap[gb]? = some (.cells #[u9, .pointer (some ⟨gt, 0, none⟩)] bkT (0, 0)) := (hG8.block gb (by have := (Array.getElem?_eq_some_iff.1 hu9).1; exact this) (fun e => hneG e.symm)).trans hu9
            refine anyH_one 10 (by kernel_rfl) ?_
            refine ⟨wpOp_store1 rfl (by kernel_rfl) rwS _ _ rfl gb 0 v8 u9 (by kernel_rfl) (by kernel_rfl) (by rcases hO8.formc with ⟨A8, c8, rfl⟩; rfl) (by unfold World.cell?; rw [hc8]; rfl) (by unfold World.frozen?; rw [hc8]; rfl) (by kernel_rfl) ?_⟩
            have hSs : z8.grownBy (z8.setCell ⟨gb, 0, none⟩ v8) (some gb) := grown_set (grown_refl _ _) _ _
            refine ⟨⟨cell_old hS8.1 hSs (by simp; omega), hS8.2.old hSs (by simp; omega)⟩, ?_⟩
            have hY9 := hYz.fr (by unfold TyOk; decide) hF9
            have hR9 : Row (z8.setCell ⟨gb, 0, none⟩ v8) (N + 1 + 1 + 1 + 1) 41 16 := by
              obtain ⟨old, hg, hs⟩ := hRNz
              exact ⟨old, hF9.keeps _ _ hg (fun _ => ⟨_, _, _, rfl, by unfold TyOk; decide⟩), hs⟩
            have hF9w := hFz.trans hF9
            have hM9w := below_more hMz hM9 (Nat.le_refl _)
            generalize z8.setCell ⟨gb, 0, none⟩ v8 = z9 at hBk9 hF9w hM9w hY9 hR9 ⊢
            clear hS8 hSs hc8 hu9 hG8 hO8 hF9 hM9
            refine wpAnyH_done (by kernel_rfl) ?_ _
            simp only [Act.put, List.setIfInBounds_toArray, List.set_cons_succ, List.set_cons_zero]
            go_wp2_with (first
              | ((with_reducible show wpList _ _ _ _ _ z9); refine load_blk (w := z9) rfl 41 _ rfl H 41 16 5 y' (by rfl) hY9 hyl (by kernel_rfl) (by kernel_rfl) ?_)
              | ((with_reducible show wpList _ _ _ _ _ z9); refine store_blk (w := z9) rfl 41 _ _ rfl (N + 1 + 1 + 1 + 1) 41 16 y' (by rfl) (by rfl) hR9 hyl (by kernel_rfl) ?_; intro z10 hB10 hG10 hz10; obtain ⟨oc, hoc, _⟩ := hR9))
            refine bodyPost_ret (results_blk rfl _ _ (N + 1 + 1 + 1 + 1) 41 16 5 y' rfl hB10 hyl (by kernel_rfl) (by kernel_rfl)) rfl ⟨?_, hF9w.new hG10 (by omega), below_new hM9w (by have := hM9w.size; omega) hG10 (by omega)⟩
            rw [hRes]
            exact ⟨hBk9.apart hG10 hoc (by decide), y', _, rfl, hyl, .inl ⟨rfl, rfl⟩⟩
          · refine ⟨wpOp_run rfl (by kernel_rfl) (.slice (some ⟨u.heap.size, 0, none⟩) 1 1) (u.alloc (.cells (.string (ost key) :: (Bl y' ++ Bl x)).toArray rwT)) (exec_rows _ _ _ rfl (ost key) y' x hyl HX.out (by kernel_rfl) u) ?_⟩
            rw [hzd]
            have hLz : Below u.heap.size u (u.alloc (.cells (.string (ost key) :: (Bl y' ++ Bl x)).toArray rwT)) := below_alloc (Below.refl _ _) (Nat.le_refl _) _
            have hVz2 : VB (u.alloc (.cells (.string (ost key) :: (Bl y' ++ Bl x)).toArray rwT)) (H + 2) rwT (.string (ost key) :: (Bl y' ++ Bl x)) := by rw [← hzd]; exact heap_alloc_new u _
            have hSz := (⟨cell_old hS.1 (grown_alloc (grown_refl u none) (.cells (.string (ost key) :: (Bl y' ++ Bl x)).toArray rwT)) (by simp), hS.2.alloc _⟩ : (u.alloc (.cells (.string (ost key) :: (Bl y' ++ Bl x)).toArray rwT)).cell? ⟨N, 0, none⟩ = some (.pointer (some ⟨gb, 0, none⟩)) ∧ VB (u.alloc (.cells (.string (ost key) :: (Bl y' ++ Bl x)).toArray rwT)) (H + 1) 153 (.string (ost key) :: (Bl y' ++ Bl x)))
            have hBz := hBd.below hLz
            have hcz := cell_old hcd (grown_alloc (grown_refl u none) (.cells (.string (ost key) :: (Bl y' ++ Bl x)).toArray rwT)) (by simp)
            have hRz := hRd.below hLz
            have hFz := hFd.trans (Fr.of_below hLz)
            have hMz := below_more hMd hLz (by have := hMd.size; omega)
            have hRNz := hRNd.below hLz hRNd.lt
            have hYz := hYd.under hLz
            have hAz := hAd.next hLz
            have hzz : (u.alloc (.cells (.string (ost key) :: (Bl y' ++ Bl x)).toArray rwT)).heap.size = H + 3 := by show (u.heap.push _).size = _; simp; omega
            generalize u.alloc (.cells (.string (ost key) :: (Bl y' ++ Bl x)).toArray rwT) = z7 at hLz hVz2 hSz hBz hcz hRz hFz hMz hRNz hYz hAz hzz ⊢
            refine ⟨hSz, ?_⟩
            refine anyH_one 4 (by kernel_rfl) ?_
            refine ⟨wpOp_run rfl (by kernel_rfl) (.slice A L c) z7 (exec_load1 rwS _ rfl ⟨gb, 0, none⟩ (.slice A L c) (by kernel_rfl) (load_rws z7 _ _ hcz)) ⟨hSz, ?_⟩⟩
            refine anyH_one 7 (by kernel_rfl) ?_
            refine ⟨wpOp_append_r rfl (by kernel_rfl) hu_rws hi_rwt _ _ rfl B (.slice A L c) rows (by kernel_rfl) hRz (H + 2) (⟨key, y', x⟩ : Rw) hrok (by kernel_rfl) hVz2 HRL.out (by have := hMz.size; omega) ?_⟩
            intro v8 z8 hO8 hG8
            have hob : ∀ q, (Value.slice A L c).ownBlock = some q → q < H ∧ B ≤ q ∧ ∃ cc, z7.heap[q]? = some (.cells cc rwT (0, 0)) := fun q hq => ⟨hRlt q hq, (hRz.typ q hq).1, (hRz.typ q hq).2⟩
            have hneN : (Value.slice A L c).ownBlock ≠ some N := by
              intro e
              obtain ⟨h1, h2, cc, h3⟩ := hob N e
              have hAz' := hAz
              unfold VB at hAz'
              rw [hAz'] at h3
              injection h3 with h3
              injection h3 with _ h3 _
              exact absurd h3 (by decide)
            have hneG : (Value.slice A L c).ownBlock ≠ some gb := by
              intro e
              obtain ⟨u1, hu1, _⟩ := hBz.book
              obtain ⟨_, _, cc, h3⟩ := hob gb e
              rw [hu1] at h3
              injection h3 with h3
              injection h3 with _ h3 _
              exact absurd h3 (by decide)
            have hneH : (Value.slice A L c).ownBlock ≠ some (H + 1) := by intro e; have := (hob (H + 1) e).1; omega
            have hS8 : z8.cell? ⟨N, 0, none⟩ = some (.pointer (some ⟨gb, 0, none⟩)) ∧ VB z8 (H + 1) 153 (.string (ost key) :: (Bl y' ++ Bl x)) := ⟨cell_old hSz.1 hG8 hneN, hSz.2.old hG8 hneH⟩
            refine ⟨hS8, ?_⟩
            refine tkw 8 72 rfl rfl (by kernel_rfl) (.pointer (some ⟨gb, 0, none⟩)) idq (fun _ => by kernel_rfl) hS8 ?_
            refine tkw 9 73 rfl rfl (by kernel_rfl) (.pointer (some ⟨gb, 0, none⟩)) idq (fun _ => by kernel_rfl) hS8 ?_
            obtain ⟨hBk9, hF9, hM9⟩ := hBz.put hcz (by have := hMz.size; omega) hG8 hO8 hokall
            obtain ⟨u9, hu9, _⟩ := hBz.book
            have hc8 : z8.heap[gb]? = some (.cells #[u9, .pointer (some ⟨gt, 0, none⟩)] bkT (0, 0)) := (hG8.block gb (by have := (Array.getElem?_eq_some_iff.1 hu9).1; exact this) (fun e => hneG e.symm)).trans hu9
            refine anyH_one 10 (by kernel_rfl) ?_
            refine ⟨wpOp_store1 rfl (by kernel_rfl) rwS _ _ rfl gb 0 v8 u9 (by kernel_rfl) (by kernel_rfl) (by rcases hO8.formc with ⟨A8, c8, rfl⟩; rfl) (by unfold World.cell?; rw [hc8]; rfl) (by unfold World.frozen?; rw [hc8]; rfl) (by kernel_rfl) ?_⟩
            have hSs : z8.grownBy (z8.setCell ⟨gb, 0, none⟩ v8) (some gb) := grown_set (grown_refl _ _) _ _
            refine ⟨⟨cell_old hS8.1 hSs (by simp; omega), hS8.2.old hSs (by simp; omega)⟩, ?_⟩
            have hY9 := hYz.fr (by unfold TyOk; decide) hF9
            have hR9 : Row (z8.setCell ⟨gb, 0, none⟩ v8) (N + 1 + 1 + 1 + 1) 41 16 := by
              obtain ⟨old, hg, hs⟩ := hRNz
              exact ⟨old, hF9.keeps _ _ hg (fun _ => ⟨_, _, _, rfl, by unfold TyOk; decide⟩), hs⟩
            have hF9w := hFz.trans hF9
            have hM9w := below_more hMz hM9 (Nat.le_refl _)
            generalize z8.setCell ⟨gb, 0, none⟩ v8 = z9 at hBk9 hF9w hM9w hY9 hR9 ⊢
            clear hS8 hSs hc8 hu9 hG8 hO8 hF9 hM9
            refine wpAnyH_done (by kernel_rfl) ?_ _
            simp only [Act.put, List.setIfInBounds_toArray, List.set_cons_succ, List.set_cons_zero]
            go_wp2_with (first
              | ((with_reducible show wpList _ _ _ _ _ z9); refine load_blk (w := z9) rfl 41 _ rfl H 41 16 5 y' (by rfl) hY9 hyl (by kernel_rfl) (by kernel_rfl) ?_)
              | ((with_reducible show wpList _ _ _ _ _ z9); refine store_blk (w := z9) rfl 41 _ _ rfl (N + 1 + 1 + 1 + 1) 41 16 y' (by rfl) (by rfl) hR9 hyl (by kernel_rfl) ?_; intro z10 hB10 hG10 hz10; obtain ⟨oc, hoc, _⟩ := hR9))
            refine bodyPost_ret (results_blk rfl _ _ (N + 1 + 1 + 1 + 1) 41 16 5 y' rfl hB10 hyl (by kernel_rfl) (by kernel_rfl)) rfl ⟨?_, hF9w.new hG10 (by omega), below_new hM9w (by have := hM9w.size; omega) hG10 (by omega)⟩
            rw [hRes]
            exact ⟨hBk9.apart hG10 hoc (by decide), y', _, rfl, hyl, .inl ⟨rfl, rfl⟩⟩
end Go.Proofs.YtbbfjlnkhenbiaaDoor
set_option linter.unusedVariables false
set_option linter.unusedSimpArgs false
namespace Lk
open Go Go.RowKit
theorem CipO.kind {kind : Nat} {w : World} {q : Value} {key : List UInt8} {gb : Nat} (h : CipO kind w q key gb) : ∃ g v, q = .pointer (some ⟨g, 0, none⟩) ∧ w.cell? ⟨g, 0, none⟩ = some (.int .i64 kind) ∧ w.cell? ⟨g, 1, none⟩ = some v ∧ w.cell? ⟨g, 2, none⟩ = some (.pointer (some ⟨gb, 0, none⟩)) ∧ SlK kind w v key := by
  obtain ⟨g, v, e, h1, h2⟩ := h
  refine ⟨g, v, e, ?_, ?_, ?_, h2⟩ <;> (unfold World.cell?; rw [h1]; rfl)
theorem Fr.drew {kind : Nat} {w w' : World} (h : Fr kind w w') : Fr kind w w'.drew := h.trans (Fr.of_below (below_drew _))
theorem Row.fr {kind : Nat} {w w' : World} {g T n : Nat} (h : Row w g T n) (hT : TyOk T) (hF : Fr kind w w') : Row w' g T n := by
  obtain ⟨old, hg, hs⟩ := h
  exact ⟨old, hF.keeps _ _ hg (fun _ => ⟨_, _, _, rfl, hT⟩), hs⟩
end Lk
namespace Go.Proofs.YtbbfjlnkhenbiaaDoor
open Go Go.RowKit Lk
theorem run_cvk (w : World) (A : Option Addr) (c : Nat) (l : List UInt8) (h : SlB w (.slice A l.length c) l) (hl : 0 < l.length) : (convert 22 9 (.slice A l.length c)).run Tryd.prog w = .ok (.string (ost l)) w := by
  obtain ⟨A', c', e, n1, n2, n3, n4⟩ := h
  cases e
  obtain ⟨g, o, rfl, hr⟩ := n4 (by omega)
  refine run_convert_bytes_back _ 22 9 5 ⟨g, o, none⟩ c l hu_sl (by kernel_rfl) (by kernel_rfl) ?_
  intro j hj
  have : (⟨g, o, none⟩ : Addr).add j = ⟨g, o + j, none⟩ := by unfold Addr.add; split <;> simp_all
  rw [this, hr j hj]
  simp [bv, g8, hj]
theorem SizeO_any (q : Value) (key : List UInt8) (gb : Nat) (w : World) (h : CipO 3 w q key gb) : Calls Tryd.prog 15 #[q] w fun e w' => e = .returned (.int .i64 16) ∧ w' = w := by
  obtain ⟨g, v, rfl, h1, h2, h3, h4⟩ := h.kind
  go_enter Tryd.func15, Tryd.ntmps15
  go_wp2
  go_ret
  exact ⟨rfl, rfl⟩
set_option maxHeartbeats 3200000 in
set_option maxRecDepth 100000 in
theorem wide3_any (q : Value) (rows : List Rw) (tp : List UInt8) (B gb gt : Nat) (key x : List UInt8) (back : Bool) (w : World) (hq : CipO 3 w q key gb) (hb : BkAt w B gb gt rows tp) (hrl : rows.length ≤ 100000) (htl : tp.length ≤ 1000000) (hx : x.length = 16) (hk : 0 < key.length) (hBw : B ≤ w.heap.size) :
    Calls Tryd.prog 34 #[q, .agg (Bs x), .bool back] w fun e w' => AskR w' B gb gt (pask rows tp key x back) e ∧ Fr 3 w w' ∧ Below B w w' := by
  obtain ⟨N, hN⟩ : ∃ N, w.heap.size = N := ⟨_, rfl⟩
  have HN := Lib.hid hN
  have HX := Lib.hid hx
  have HB := Lib.hid hb
  have HQ := Lib.hid hq
  have HBW := Lib.hid hBw
  have HAsk := Lib.hid (fun (w1 : World) (h : BkAt w1 B gb gt rows tp) (hB1 : B ≤ w1.heap.size) => ask_any rows tp B gb gt key x back w1 h hrl htl hx hB1)
  obtain ⟨R, eR⟩ : ∃ R, pask rows tp key x back = R := ⟨_, rfl⟩
  rw [eR] at HAsk ⊢
  obtain ⟨g, vk, rfl, c0, c1, c2, hsk⟩ := hq.kind
  obtain ⟨A, c, rfl, hrest⟩ := hsk.1
  have HC := Lib.hid (fun (w1 : World) (h : Fr 3 w w1) => (show w1.cell? ⟨g, 0, none⟩ = some (.int .i64 3) ∧ w1.cell? ⟨g, 1, none⟩ = some (.slice A key.length c) ∧ w1.cell? ⟨g, 2, none⟩ = some (.pointer (some ⟨gb, 0, none⟩)) ∧ SlB w1 (.slice A key.length c) key from by
    obtain ⟨g', v', e, h1, h2⟩ := hq
    cases e
    have h3 := h.keeps _ _ h1 (fun _ => ⟨_, _, _, rfl, tyOk_cip⟩)
    have h4 : v' = .slice A key.length c := by
      unfold World.cell? at c1
      rw [h1] at c1
      simpa using c1
    subst h4
    refine ⟨?_, ?_, ?_, (h2.fr h).1⟩ <;> (unfold World.cell?; rw [h3]; rfl)))
  have HK := Lib.hid hk
  clear hN hx hb hq hBw hrest hsk hrl htl hk eR c1 c2
  go_enter Tryd.func34, Tryd.ntmps34
  go_wp2_with (first
    | ((with_reducible show wpList _ _ _ _ _ w); refine box_blk (w := w) rfl 41 _ rfl x (by rfl) ?_; intro w0 hX0 hG0 hz0; rw [HN.out] at hX0 hz0 ⊢)
    | ((with_reducible show wpList _ _ _ _ _ w0); refine alloc_row (w := w0) rfl 41 rfl (.agg (Bs (List.replicate 16 0))) 16 (fun _ => by kernel_rfl) rfl ?_; intro w1 hR1 _ hG1 hz1; rw [hz0] at hR1 hz1 ⊢; have hX1 := hX0.old hG1 (by simp); have hM1 : Below w.heap.size w w1 := (below_none (below_none (Below.refl _ _) (Nat.le_refl _) hG0) (by have := HN.out; omega) hG1); have hF1 : Fr 3 w w1 := Fr.of_below hM1; have d0 := (HC.out w1 hF1).1))
  have hFd : Fr 3 w w1.drew := hF1.drew
  have hS : Fr 3 w w1.drew ∧ Blk w1.drew N 41 x ∧ Row w1.drew (N + 1) 41 16 := ⟨hFd, hX1, hR1⟩
  have hBd : BkAt w1.drew B gb gt rows tp := HB.out.below (hM1.drew)
  have hMd : Below w.heap.size w w1.drew := hM1.drew
  have hzd : w1.drew.heap.size = N + 1 + 1 := hz1
  refine wp_region_held (S := fun w' => Fr 3 w w' ∧ Blk w' N 41 x ∧ Row w' (N + 1) 41 16) (by kernel_rfl) ?_
  show wpAnyH _ _ _ _ _ 16 _ _ w1.drew
  generalize w1.drew = u at hFd hS hBd hMd hzd ⊢
  clear hX1 hR1 hF1 d0 hM1 hG1 hG0 hz0 hz1 hX0
  refine tkw 0 14 rfl rfl (by kernel_rfl) (.pointer (some ⟨g, 0, none⟩)) idq (fun _ => by kernel_rfl) hS ?_
  refine tkw 1 15 rfl rfl (by kernel_rfl) (.pointer (some ⟨g, 0, none⟩)) idq (fun _ => by kernel_rfl) hS ?_
  refine tkw 2 16 rfl rfl (by kernel_rfl) (.pointer (some ⟨g, 2, none⟩)) idq (fun _ => by kernel_rfl) hS ?_
  refine tkl 3 17 rfl rfl (by kernel_rfl) idq (yields_cell (by kernel_rfl) (.pointer (some ⟨gb, 0, none⟩)) 24 _ rfl ⟨g, 2, none⟩ (by kernel_rfl) (fun w h => load_bp w _ _ h) (fun w' h => (HC.out w' h.1).2.2.1)) hS ?_
  refine tkw 4 18 rfl rfl (by kernel_rfl) (.pointer (some ⟨g, 0, none⟩)) idq (fun _ => by kernel_rfl) hS ?_
  refine tkw 5 19 rfl rfl (by kernel_rfl) (.pointer (some ⟨g, 0, none⟩)) idq (fun _ => by kernel_rfl) hS ?_
  refine tkw 6 20 rfl rfl (by kernel_rfl) (.pointer (some ⟨g, 1, none⟩)) idq (fun _ => by kernel_rfl) hS ?_
  refine tkl 7 21 rfl rfl (by kernel_rfl) idq (yields_cell (by kernel_rfl) (.slice A key.length c) 22 _ rfl ⟨g, 1, none⟩ (by kernel_rfl) (fun w h => load_sl w _ _ h) (fun w' h => (HC.out w' h.1).2.1)) hS ?_
  refine tkl 8 22 rfl rfl (by kernel_rfl) idq (yields_run (by kernel_rfl) (.string (ost key)) (fun w' h => exec_conv _ _ _ rfl _ (by kernel_rfl) _ w' (run_cvk w' A c key (HC.out w' h.1).2.2.2 HK.out))) hS ?_
  refine tkl 9 23 rfl rfl (by kernel_rfl) idq (yields_load (by kernel_rfl) 41 _ rfl N 0 16 5 x (by kernel_rfl) (fun w' h => h.2.1.rd0) HX.out (by kernel_rfl) (by kernel_rfl)) hS ?_
  refine tkw 10 24 rfl rfl (by kernel_rfl) (.bool back) idq (fun _ => by kernel_rfl) hS ?_
  refine anyH_one 11 (by kernel_rfl) ?_
  have hBu : B ≤ u.heap.size := by have := HBW.out; have := HN.out; omega
  refine opH_enter (some 25) rfl rfl (by kernel_rfl) 54 #[.pointer (some ⟨gb, 0, none⟩), .string (ost key), .agg (Bs x), .bool back] (fun v wq => AskR wq B gb gt R (.returned v) ∧ Fr 3 u wq ∧ Below B u wq) (by kernel_rfl) ((HAsk.out u hBd hBu).mono fun e wq h => by
    obtain ⟨⟨h1, y, v, rfl, h2, h3⟩, h4, h5⟩ := h
    exact ⟨_, rfl, ⟨h1, y, v, rfl, h2, h3⟩, h4, h5⟩) ?_
  rintro vA u2 ⟨⟨hBk2, y, ve, hve, hyl, hy⟩, hF2, hM2⟩
  have hve' : vA = .tuple #[.agg (Bs y), ve] := by injection hve
  subst hve'
  have hS2 : Fr 3 w u2 ∧ Blk u2 N 41 x ∧ Row u2 (N + 1) 41 16 := ⟨hS.1.trans hF2, hS.2.1.fr (by unfold TyOk; decide) hF2, hS.2.2.fr (by unfold TyOk; decide) hF2⟩
  refine ⟨hS2, ?_⟩
  refine tkw 12 26 rfl rfl (by kernel_rfl) (.agg (Bs y)) idq (fun _ => by kernel_rfl) hS2 ?_
  refine tkw 13 27 rfl rfl (by kernel_rfl) ve idq (fun _ => by kernel_rfl) hS2 ?_
  refine anyH_one 14 (by kernel_rfl) ?_
  refine ⟨wpOp_store rfl (by kernel_rfl) 41 _ _ rfl (N + 1) 41 16 y (by kernel_rfl) (by kernel_rfl) hS2.2.2 hyl (by kernel_rfl) ?_⟩
  intro u3 hB3 hG3 hz3
  obtain ⟨oc, hoc, _⟩ := hS2.2.2
  have hF3 : Fr 3 w u3 := hS2.1.new hG3 (by have := HN.out; omega)
  have hS3 : Fr 3 w u3 ∧ Blk u3 N 41 x ∧ Row u3 (N + 1) 41 16 := ⟨hF3, hS2.2.1.old hG3 (by simp), hB3.row hyl⟩
  refine ⟨hS3, ?_⟩
  refine tkw 15 7 rfl rfl (by kernel_rfl) ve idq (fun _ => by kernel_rfl) hS3 ?_
  refine wpAnyH_done (by kernel_rfl) ?_ _
  simp only [Act.put, List.setIfInBounds_toArray, List.set_cons_succ, List.set_cons_zero]
  have hBk3 := hBk2.apart hG3 hoc (by decide)
  have hB0 := HBW.out
  have hn0 := HN.out
  have hM3 : Below B w u3 := below_new (below_more (below_more (Below.refl B w) hMd hB0) hM2 (Nat.le_refl _)) (by have := hM2.size; omega) hG3 (by omega)
  have hR3 : AskR u3 B gb gt R (.returned (.tuple #[.agg (Bs y), ve])) := ⟨hBk3, y, ve, rfl, hyl, hy.imp id fun ⟨h1, aa, h2, h3⟩ => ⟨h1, aa, h2, erV_apart h3 hG3 hoc (by decide)⟩⟩
  clear hS hS2 hS3 hM2 hF2 hBk2 hMd hFd hBd hG3 hoc hy
  go_wp2
  refine bodyPost_ret (results_blk (u := 7) rfl _ u3 (N + 1) 41 16 5 y rfl hB3 hyl (by kernel_rfl) (by kernel_rfl)) rfl ⟨hR3, hF3, hM3⟩
/-- what a block is answered as -/
def DoR (w w' : World) (B gb gt : Nat) (r : List Rw × List UInt8 × Option (List UInt8)) (e : Ending) : Prop :=
  BkAt w' B gb gt r.1 r.2.1 ∧ ((∃ y g, r.2.2 = some y ∧ y.length = 16 ∧ e = .returned (.tuple #[.slice (some ⟨g, 0, none⟩) 16 16, .nilIface]) ∧ w.heap.size ≤ g ∧ Blk w' g 41 y) ∨ (r.2.2 = none ∧ ∃ v a, e = .returned (.tuple #[.slice none 0 0, v]) ∧ 0 ≤ a ∧ ErV w' [a] 13 v))
set_option maxHeartbeats 3200000 in
set_option maxRecDepth 100000 in
theorem Do3_any (q vb : Value) (rows : List Rw) (tp : List UInt8) (B gb gt : Nat) (key x : List UInt8) (back : Bool) (w : World) (hq : CipO 3 w q key gb) (hb : BkAt w B gb gt rows tp) (hrl : rows.length ≤ 100000) (htl : tp.length ≤ 1000000) (hs : SlB w vb x) (hx : x.length = 16) (hk : 0 < key.length) (hBw : B ≤ w.heap.size) :
    Calls Tryd.prog 17 #[q, vb, .bool back] w fun e w' => DoR w w' B gb gt (pask rows tp key x back) e ∧ Fr 3 w w' ∧ Below B w w' := by
  have HSz := Lib.hid (SizeO_any q key gb w hq)
  have HW := Lib.hid (wide3_any q rows tp B gb gt key x back w hq hb hrl htl hx hk hBw)
  obtain ⟨R, eR⟩ : ∃ R, pask rows tp key x back = R := ⟨_, rfl⟩
  rw [eR] at HW ⊢
  have HBW := Lib.hid hBw
  obtain ⟨g, vk, rfl, c0, c1, c2, _⟩ := hq.kind
  obtain ⟨A, c, rfl, n1, n2, n3, n4⟩ := hs
  rw [hx] at n2 ⊢
  obtain ⟨gx, ox, rfl, hrd⟩ := n4 (by omega)
  have HRd := Lib.hid (rangeAt_rd hrd)
  have HX := Lib.hid hx
  have harr := arr16_at
  clear hq hb hrl htl hx hk hBw eR n1 n2 n3 n4 hrd c1 c2
  rcases hR : R.2.2 with _ | yR
  · go_enter Tryd.func17, Tryd.ntmps17
    go_wp2_with (first
    | (go_at_call 15; refine HSz.out.mono ?_; rintro e wq ⟨rfl, hq⟩; have hq1 := hq.symm; subst hq1)
    | ((with_reducible show wpList _ _ _ _ _ w); refine wpList_load_mid (w := w) rfl 41 _ rfl gx ox (by rfl) (Bl x) (.array 16 5) HRd.out (by kernel_rfl) rfl (by rw [Bl_len, HX.out]; kernel_rfl) ?_)
    | (go_at_call 34; refine HW.out.mono ?_; rintro e w1 ⟨⟨hBk, y, ve, rfl, hyl, HY⟩, hF1, hM1⟩; (rcases HY with ⟨h1, _⟩ | ⟨_, aE, haE, hE⟩; (exact nomatch h1.symm.trans hR)); obtain ⟨eT, ex, rfl⟩ := hE.form)
    | ((with_reducible show wpList _ _ _ _ _ w1); refine alloc_row (w := w1) rfl 41 rfl (.agg (Bs (List.replicate 16 0))) 16 (fun _ => by kernel_rfl) rfl ?_; intro w2 hR2 _ hG2 hz2; obtain ⟨G, eG⟩ : ∃ G, w1.heap.size = G := ⟨_, rfl⟩; rw [eG] at hR2 hz2 ⊢)
    | ((with_reducible show wpList _ _ _ _ _ w2); refine store_blk (w := w2) rfl 41 _ _ rfl G 41 16 y (by rfl) (by rfl) hR2 hyl (by kernel_rfl) ?_; intro w3 hB3 hG3 hz3; have hL3 : Below w1.heap.size w1 w3 := below_new (below_none (Below.refl _ _) (Nat.le_refl _) hG2) (by omega) hG3 (by omega); have hBk3 := hBk.below hL3; have hF3 := hF1.trans (Fr.of_below hL3); have hM3 := below_more hM1 hL3 (by have := hM1.size; have := HBW.out; omega); have hgw : w.heap.size ≤ G := (by have := hF1.size; omega); have hE3 := hE.below hL3))
    go_ret2
    exact ⟨⟨hBk3, .inr ⟨hR, _, _, rfl, haE, hE3⟩⟩, hF3, hM3⟩
  · go_enter Tryd.func17, Tryd.ntmps17
    go_wp2_with (first
    | (go_at_call 15; refine HSz.out.mono ?_; rintro e wq ⟨rfl, hq⟩; have hq1 := hq.symm; subst hq1)
    | ((with_reducible show wpList _ _ _ _ _ w); refine wpList_load_mid (w := w) rfl 41 _ rfl gx ox (by rfl) (Bl x) (.array 16 5) HRd.out (by kernel_rfl) rfl (by rw [Bl_len, HX.out]; kernel_rfl) ?_)
    | (go_at_call 34; refine HW.out.mono ?_; rintro e w1 ⟨⟨hBk, y, ve, rfl, hyl, HY⟩, hF1, hM1⟩; (rcases HY with ⟨h1, rfl⟩ | ⟨h1, _⟩; rotate_left; (exact nomatch h1.symm.trans hR)); have hyy : y = yR := Option.some.inj (h1.symm.trans hR); subst hyy)
    | ((with_reducible show wpList _ _ _ _ _ w1); refine alloc_row (w := w1) rfl 41 rfl (.agg (Bs (List.replicate 16 0))) 16 (fun _ => by kernel_rfl) rfl ?_; intro w2 hR2 _ hG2 hz2; obtain ⟨G, eG⟩ : ∃ G, w1.heap.size = G := ⟨_, rfl⟩; rw [eG] at hR2 hz2 ⊢)
    | ((with_reducible show wpList _ _ _ _ _ w2); refine store_blk (w := w2) rfl 41 _ _ rfl G 41 16 y (by rfl) (by rfl) hR2 hyl (by kernel_rfl) ?_; intro w3 hB3 hG3 hz3; have hL3 : Below w1.heap.size w1 w3 := below_new (below_none (Below.refl _ _) (Nat.le_refl _) hG2) (by omega) hG3 (by omega); have hBk3 := hBk.below hL3; have hF3 := hF1.trans (Fr.of_below hL3); have hM3 := below_more hM1 hL3 (by have := hM1.size; have := HBW.out; omega); have hgw : w.heap.size ≤ G := (by have := hF1.size; omega)))
    go_ret2
    exact ⟨⟨hBk3, .inl ⟨y, G, hR, hyl, rfl, hgw, hB3⟩⟩, hF3, hM3⟩
end Go.Proofs.YtbbfjlnkhenbiaaDoor
set_option linter.unusedVariables false
set_option linter.unusedSimpArgs false
namespace Lk
/-- rows of one key are unlike in what goes in and in what comes out -/
def Uq (rows : List Rw) : Prop := rows.Pairwise fun a b => a.k = b.k → a.i ≠ b.i ∧ a.o ≠ b.o
theorem uq_nil : Uq [] := List.Pairwise.nil
theorem uq_eq : ∀ {rows : List Rw}, Uq rows → ∀ {a b : Rw}, a ∈ rows → b ∈ rows → a.k = b.k → (a.i = b.i ∨ a.o = b.o) → a = b
  | [], _, _, _, h, _, _, _ => by cases h
  | r :: rows, hu, a, b, ha, hb, hk, he => by
    have hu' := List.pairwise_cons.1 hu
    rcases List.mem_cons.1 ha with ea | ha'
    · rcases List.mem_cons.1 hb with eb | hb'
      · rw [ea, eb]
      · rw [← ea] at hu'
        obtain ⟨h1, h2⟩ := hu'.1 b hb' hk
        rcases he with h | h
        · exact absurd h h1
        · exact absurd h h2
    · rcases List.mem_cons.1 hb with eb | hb'
      · rw [← eb] at hu'
        obtain ⟨h1, h2⟩ := hu'.1 a ha' hk.symm
        rcases he with h | h
        · exact absurd h.symm h1
        · exact absurd h.symm h2
      · exact uq_eq hu'.2 ha' hb' hk he
theorem rfrom_rto {back : Bool} {a b : Rw} (h : rfrom back a = rfrom back b ∨ rto back a = rto back b) : a.i = b.i ∨ a.o = b.o := by
  cases back
  · simpa [rfrom, rto] using h
  · simpa [rfrom, rto] using h.symm
theorem pdraw_free_of {t : List UInt8 → Bool} : ∀ (n : Nat) {tp tp' : List UInt8} {y : List UInt8}, tp.length ≤ n → pdraw t tp = (some y, tp') → t y = false ∧ y.length = 16
  | 0, tp, tp', y, hn, h => by
    rw [pdraw_short _ _ (by omega)] at h
    cases h
  | n + 1, tp, tp', y, hn, h => by
    by_cases hs : tp.length < 16
    · rw [pdraw_short _ _ hs] at h; cases h
    · by_cases ht : t (tp.take 16) = true
      · rw [pdraw_taken _ _ hs ht] at h
        exact pdraw_free_of n (by rw [List.length_drop]; omega) h
      · have ht' : t (tp.take 16) = false := by simpa using ht
        rw [pdraw_free _ _ hs ht'] at h
        injection h with h _
        injection h with h
        rw [← h]
        exact ⟨ht', by rw [List.length_take]; omega⟩
theorem pfind_mem {rows : List Rw} {key x : List UInt8} {back : Bool} {r : Rw} (h : pfind rows key x back = some r) : r ∈ rows ∧ r.k = key ∧ rfrom back r = x := by
  have h1 := List.mem_of_find?_eq_some h
  have h2 := List.find?_some h
  simp only [Bool.and_eq_true, beq_iff_eq] at h2
  exact ⟨h1, h2⟩
theorem pfind_no {rows : List Rw} {key x : List UInt8} {back : Bool} (h : pfind rows key x back = none) : ∀ r ∈ rows, r.k = key → rfrom back r ≠ x := by
  intro r hr hk hx
  have := List.find?_eq_none.1 h r hr
  simp [hk, hx] at this
theorem ptaken_no {rows : List Rw} {key y : List UInt8} {back : Bool} (h : ptaken rows key y back = false) : ∀ r ∈ rows, r.k = key → rto back r ≠ y := by
  intro r hr hk hx
  have := List.any_eq_false.1 h r hr
  simp [hk, hx] at this
theorem mkrow_k (key x y : List UInt8) (back : Bool) : (mkrow key x y back).k = key ∧ rfrom back (mkrow key x y back) = x ∧ rto back (mkrow key x y back) = y := by
  cases back <;> simp [mkrow, rfrom, rto]
/-- what ask answers, told -/
theorem pask_cases (rows : List Rw) (tp key x : List UInt8) (back : Bool) :
    (∃ r, r ∈ rows ∧ r.k = key ∧ rfrom back r = x ∧ pask rows tp key x back = (rows, tp, some (rto back r))) ∨
    (∃ tp', pdraw (fun y => ptaken rows key y back) tp = (none, tp') ∧ pask rows tp key x back = (rows, tp', none)) ∨
    (∃ y tp', pdraw (fun y => ptaken rows key y back) tp = (some y, tp') ∧ ptaken rows key y back = false ∧ y.length = 16 ∧ pfind rows key x back = none ∧ pask rows tp key x back = (rows ++ [mkrow key x y back], tp', some y)) := by
  unfold pask
  rcases hf : pfind rows key x back with _ | r
  · rcases hd : pdraw (fun y => ptaken rows key y back) tp with ⟨_ | y, tp'⟩
    · exact .inr (.inl ⟨tp', rfl, rfl⟩)
    · obtain ⟨h1, h2⟩ := pdraw_free_of tp.length (Nat.le_refl _) hd
      exact .inr (.inr ⟨y, tp', rfl, h1, h2, rfl, rfl⟩)
  · obtain ⟨h1, h2, h3⟩ := pfind_mem hf
    exact .inl ⟨r, h1, h2, h3, rfl⟩
theorem pask_uq {rows : List Rw} {tp key x : List UInt8} {back : Bool} (h : Uq rows) : Uq (pask rows tp key x back).1 := by
  rcases pask_cases rows tp key x back with ⟨r, _, _, _, e⟩ | ⟨tp', _, e⟩ | ⟨y, tp', _, ht, _, hf, e⟩
  · rw [e]; exact h
  · rw [e]; exact h
  · rw [e]
    refine List.pairwise_append.2 ⟨h, List.pairwise_singleton _ _, fun a ha b hb hk => ?_⟩
    rw [List.mem_singleton.1 hb] at hk ⊢
    obtain ⟨m1, m2, m3⟩ := mkrow_k key x y back
    rw [m1] at hk
    have h1 := pfind_no hf a ha hk
    have h2 := ptaken_no ht a ha hk
    cases back
    · simp only [rfrom, rto, mkrow, Bool.false_eq_true, if_false] at h1 h2 ⊢; exact ⟨h1, h2⟩
    · simp only [rfrom, rto, mkrow, if_true] at h1 h2 ⊢; exact ⟨h2, h1⟩
theorem pask_sub {rows : List Rw} {tp key x : List UInt8} {back : Bool} : ∀ r ∈ rows, r ∈ (pask rows tp key x back).1 := by
  intro r hr
  rcases pask_cases rows tp key x back with ⟨r', _, _, _, e⟩ | ⟨tp', _, e⟩ | ⟨y, tp', _, _, _, _, e⟩
  · rw [e]; exact hr
  · rw [e]; exact hr
  · rw [e]; exact List.mem_append_left _ hr
theorem pask_row {rows : List Rw} {tp key x y : List UInt8} {back : Bool} (h : (pask rows tp key x back).2.2 = some y) : ∃ r ∈ (pask rows tp key x back).1, r.k = key ∧ rfrom back r = x ∧ rto back r = y := by
  rcases pask_cases rows tp key x back with ⟨r, h1, h2, h3, e⟩ | ⟨tp', _, e⟩ | ⟨z, tp', _, _, _, _, e⟩
  · rw [e] at h ⊢
    injection h with h
    exact ⟨r, h1, h2, h3, h⟩
  · rw [e] at h; cases h
  · rw [e] at h ⊢
    injection h with h
    obtain ⟨m1, m2, m3⟩ := mkrow_k key x z back
    exact ⟨_, List.mem_append_right _ (List.mem_singleton.2 rfl), m1, m2, m3.trans h⟩
theorem pask_known {rows : List Rw} {key x : List UInt8} {back : Bool} (hu : Uq rows) {r : Rw} (hr : r ∈ rows) (hk : r.k = key) (hx : rfrom back r = x) (tp : List UInt8) : pask rows tp key x back = (rows, tp, some (rto back r)) := by
  rcases pask_cases rows tp key x back with ⟨r', h1, h2, h3, e⟩ | ⟨tp', hd, e⟩ | ⟨z, tp', _, _, _, hf, e⟩
  · have : r' = r := uq_eq hu h1 hr (h2.trans hk.symm) (rfrom_rto (back := back) (.inl (h3.trans hx.symm)))
    rw [e, this]
  · exfalso
    unfold pask at e
    rcases hf : pfind rows key x back with _ | q
    · exact pfind_no hf r hr hk hx
    · rw [hf] at e
      injection e with _ e
      injection e with _ e
      cases e
  · exact absurd hx (pfind_no hf r hr hk)
theorem flip_from (back : Bool) (r : Rw) : rfrom (!back) r = rto back r ∧ rto (!back) r = rfrom back r := by cases back <;> simp [rfrom, rto]
/-- there and back -/
theorem pask_back {rows : List Rw} {tp key x y : List UInt8} {back : Bool} (hu : Uq rows) (h : (pask rows tp key x back).2.2 = some y) (tp2 : List UInt8) : pask (pask rows tp key x back).1 tp2 key y (!back) = ((pask rows tp key x back).1, tp2, some x) := by
  obtain ⟨r, h1, h2, h3, h4⟩ := pask_row h
  have := pask_known (back := !back) (pask_uq hu) h1 h2 ((flip_from back r).1.trans h4) tp2
  rw [this, (flip_from back r).2, h3]
/-- the same again -/
theorem pask_again {rows : List Rw} {tp key x y : List UInt8} {back : Bool} (hu : Uq rows) (h : (pask rows tp key x back).2.2 = some y) (tp2 : List UInt8) : pask (pask rows tp key x back).1 tp2 key x back = ((pask rows tp key x back).1, tp2, some y) := by
  obtain ⟨r, h1, h2, h3, h4⟩ := pask_row h
  rw [pask_known (pask_uq hu) h1 h2 h3 tp2, h4]
/-- unlike blocks are unlike -/
theorem pask_one {rows : List Rw} {tp key x y u v : List UInt8} {back : Bool} (hu : Uq rows) (h1 : (pask rows tp key x back).2.2 = some u) (h2 : (pask (pask rows tp key x back).1 (pask rows tp key x back).2.1 key y back).2.2 = some v) : (u == v) = (x == y) := by
  obtain ⟨r, a1, a2, a3, a4⟩ := pask_row h1
  obtain ⟨s, b1, b2, b3, b4⟩ := pask_row h2
  have a1' := pask_sub (tp := (pask rows tp key x back).2.1) (key := key) (x := y) (back := back) r a1
  have hu2 := pask_uq (tp := (pask rows tp key x back).2.1) (key := key) (x := y) (back := back) (pask_uq (tp := tp) (key := key) (x := x) (back := back) hu)
  rw [Bool.eq_iff_iff, beq_iff_eq, beq_iff_eq]
  constructor
  · intro e
    have : r = s := uq_eq hu2 a1' b1 (a2.trans b2.symm) (rfrom_rto (back := back) (.inr (a4.trans (e.trans b4.symm))))
    rw [← a3, ← b3, this]
  · intro e
    have : r = s := uq_eq hu2 a1' b1 (a2.trans b2.symm) (rfrom_rto (back := back) (.inl (a3.trans (e.trans b3.symm))))
    rw [← a4, ← b4, this]
theorem pask_first (tp key x : List UInt8) (back : Bool) : ((pask [] tp key x back).2.2 = none) ↔ tp.length < 16 := by
  unfold pask
  rw [show pfind [] key x back = none from rfl]
  by_cases h : tp.length < 16
  · rw [pdraw_short _ _ h]; simp [h]
  · rw [pdraw_free _ _ h (by rfl)]; simp [h]
theorem pask_len {rows : List Rw} {tp key x y : List UInt8} {back : Bool} (hok : ∀ r ∈ rows, rwOk r) (h : (pask rows tp key x back).2.2 = some y) : y.length = 16 := by
  rcases pask_cases rows tp key x back with ⟨r, h1, _, _, e⟩ | ⟨tp', _, e⟩ | ⟨z, tp', _, _, hz, _, e⟩
  · rw [e] at h
    injection h with h
    rw [← h]
    cases back
    · exact (hok r h1).2
    · exact (hok r h1).1
  · rw [e] at h; cases h
  · rw [e] at h
    injection h with h
    rw [← h]; exact hz
end Lk
set_option linter.unusedVariables false
set_option linter.unusedSimpArgs false
namespace Lk
open Go Go.RowKit
theorem pask_sev1 : pask [] (List.replicate 16 7) [1] (List.replicate 16 0) false = ([mkrow [1] (List.replicate 16 0) (List.replicate 16 7) false], [], some (List.replicate 16 7)) := by
  unfold pask
  rw [show pfind [] [1] (List.replicate 16 0) false = none from rfl]
  simp only []
  rw [pdraw_free _ _ (by decide) (by rfl)]
  rfl
theorem pask_sev2 : pask [mkrow [1] (List.replicate 16 0) (List.replicate 16 7) false] [] [1] (List.replicate 16 7) false = ([mkrow [1] (List.replicate 16 0) (List.replicate 16 7) false], [], none) := by
  unfold pask
  rw [show pfind [mkrow [1] (List.replicate 16 0) (List.replicate 16 7) false] [1] (List.replicate 16 7) false = none from by unfold pfind; rw [List.find?_cons_of_neg (by decide)]; rfl]
  simp only []
  rw [pdraw_short _ _ (by decide)]
end Lk
namespace Go.Proofs.YtbbfjlnkhenbiaaDoor
open Go Go.RowKit Lk
set_option maxHeartbeats 800000 in
set_option maxRecDepth 100000 in
theorem New_fit (v : Value) (bp : Option Addr) (key : List UInt8) (w : World) (hf : pfits 1 key.length = false) (h : SlB w v key) : Calls Tryd.prog 12 #[.int .i64 (1 : Int), v, .pointer bp] w fun e w' => e = .returned (.tuple #[.pointer none, .iface 68 (.int .i64 2)]) ∧ w' = w := by
  have HF := Lib.hid (fits_any 1 key.length w (.inl rfl))
  rw [hf] at HF
  obtain ⟨A, c, rfl, _⟩ := h
  clear hf
  go_enter Tryd.func12, Tryd.ntmps12
  go_wp2_with (go_at_call 30; refine HF.out.mono ?_; rintro e w0 ⟨rfl, rfl⟩)
  go_ret2
  exact ⟨rfl, rfl⟩
theorem sevens_snoc (k : Nat) : List.replicate k (7 : UInt8) ++ [7] = List.replicate (k + 1) 7 := by rw [List.replicate_succ']
set_option maxHeartbeats 3200000 in
set_option maxRecDepth 100000 in
theorem awake05_any (w : World) (hE : Et w) : Calls Tryd.prog 10 #[] w fun e w' => e = .returned (.bool true) ∧ Below w.heap.size w w' := by
  obtain ⟨N, hN⟩ : ∃ N, w.heap.size = N := ⟨_, rfl⟩
  have HN := Lib.hid hN
  have HE := Lib.hid (fun w' (h : Below N w w') => hE.under h hN)
  clear hN hE
  go_enter Tryd.func10, Tryd.ntmps10
  go_wp2_with fail
  go_loopw [1, 2] (fun o i wr => ∃ (k : Nat) (vo : Value), k ≤ 16 ∧ vo = o ∧ i = .int .i64 k ∧ Own wr N vo (List.replicate k 7) ∧ Below N w wr) (fun _ i _ => 16 - (intOf i).toNat)
  case atStart => exact ⟨0, _, by omega, rfl, rfl, own_nil _ _, Below.refl _ _⟩
  case round =>
    obtain ⟨k, o, hk, ho0, rfl, hO, hL⟩ := hrel
    subst ho0
    have HO := Lib.hid hO
    have HL := Lib.hid hL
    have hwsz := hL.size
    rw [HN.out] at hwsz
    by_cases hlt : k < 16
    · have HLT := Lib.hid hlt
      clear hO hL
      go_wp2_with (at_builtin; refine append_b hu_sl hu_u8 rfl _ _ rfl N _ _ (by rfl) (HO.out.alloc _) _ [7] (by rfl) (one_slB wr 7) (by rw [List.length_replicate]; show k + 1 ≤ _; omega) (by show N ≤ (wr.heap.push _).size; simp; omega) ?_; intro v2 w2 hO2 hG2; have HO2 := Lib.hid hO2; have HL2 := Lib.hid (show Below N w w2 from below_own (HL.out.alloc (by omega) _) (by show N ≤ (wr.heap.push _).size; simp; omega) hG2 (fun k hk => (HO.out.lt k hk).1)); clear hO2 hG2)
      go_roundw
      case rel =>
        refine ⟨k + 1, _, HLT.out, rfl, by go_num, ?_, HL2.out⟩
        rw [← sevens_snoc]
        exact HO2.out
      case measure => have : k < 16 := HLT.out; simp [intOf]; omega
    · have hkn : k = 16 := by omega
      subst hkn
      have HZ := Lib.hid hwsz
      clear hO hL
      obtain ⟨sv, esv⟩ : ∃ sv : List UInt8, List.replicate 16 7 = sv := ⟨_, rfl⟩
      have HSV := Lib.hid esv
      rw [esv] at HO
      have P1 := pask_sev1
      have P2 := pask_sev2
      rw [esv] at P1 P2
      obtain ⟨rw1, erw⟩ : ∃ r, [mkrow [1] (List.replicate 16 0) sv false] = r := ⟨_, rfl⟩
      rw [erw] at P1 P2
      have hr1 : rw1.length = 1 := by rw [← erw]; rfl
      have HR1 := Lib.hid hr1
      have hsl : sv.length = 16 := by rw [← esv]; rfl
      have HSL := Lib.hid hsl
      have HP1 := Lib.hid P1
      have HP2 := Lib.hid P2
      have HB := Lib.hid (book05_any o sv wr HO.out.slB (by omega))
      have HN1 := Lib.hid (fun (gb : Nat) (w2 : World) => New3_any _ gb [1] _ (by decide) (by decide) (one_slB w2 1))
      have HD1 := Lib.hid (fun (q vb : Value) (gb gt : Nat) (w4 : World) (hq : CipO 3 w4 q [1] gb) (hb : BkAt w4 wr.heap.size gb gt [] sv) (hs : SlB w4 vb (List.replicate 16 0)) (hBw : wr.heap.size ≤ w4.heap.size) => by
        have h := Do3_any q vb [] sv wr.heap.size gb gt [1] (List.replicate 16 0) false w4 hq hb (by decide) (by omega) hs (by decide) (by decide) hBw
        rw [P1] at h; exact h)
      have HD2 := Lib.hid (fun (q vb : Value) (gb gt : Nat) (w4 : World) (hq : CipO 3 w4 q [1] gb) (hb : BkAt w4 wr.heap.size gb gt rw1 []) (hs : SlB w4 vb sv) (hBw : wr.heap.size ≤ w4.heap.size) => by
        have h := Do3_any q vb rw1 [] wr.heap.size gb gt [1] sv false w4 hq hb (by omega) (by decide) hs (by omega) (by decide) hBw
        rw [P2] at h; exact h)
      clear P1 P2 erw esv hr1 hsl hlt
      go_wp2_with (first
        | (go_at_call 11; refine HB.out.mono ?_; rintro e w1 ⟨gb, gt, rfl, hBk1, hL1⟩)
        | ((with_reducible show Calls _ _ _ (w1.alloc _) _); go_at_call 12; refine (HN1.out gb w1).mono ?_; rintro e w3 ⟨q, rfl, hQ3, hL3⟩; obtain ⟨gq, _, rfl, _⟩ := id hQ3; have hM3 : Below w1.heap.size w1 w3 := below_more (below_alloc (Below.refl _ _) (Nat.le_refl _) _) hL3 (by show _ ≤ (w1.heap.push _).size; simp); have hK3 : Below wr.heap.size wr w3 := below_more hL1 hM3 hL1.size; have hBk3 := hBk1.below hM3)
        | (go_at_call 15; refine (SizeO_any _ [1] gb w3 hQ3).mono ?_; rintro e w3 ⟨rfl, rfl⟩)
        | (refine make_new (w := w3) rfl 22 5 _ _ rfl 16 (by kernel_rfl) (by kernel_rfl) .i64 .i64 rfl rfl (by omega) ?_; intro w4 hB4 hG4 hz4; have hL4 : Below w3.heap.size w3 w4 := (below_none (Below.refl _ _) (Nat.le_refl _) hG4); have hK4 := below_more hK3 hL4 hK3.size; have hBk4 := hBk3.below hL4; have HZ4 := Lib.hid (show SlB w4 (.slice (some ⟨w3.heap.size, 0, none⟩) 16 16) (List.replicate 16 0) from hB4.slB rfl (by decide)); have hQ4 := hQ3.fr (Fr.of_below hL4))
        | ((with_reducible show Calls _ _ _ w4 _); go_at_call 17; refine (HD1.out _ _ gb gt w4 hQ4 hBk4 HZ4.out hK4.size).mono ?_; rintro e w5 ⟨⟨hBk5, HY5⟩, hF5, hM5⟩; (rcases HY5 with ⟨y, G, h15, _, rfl, hg5, hB5⟩ | ⟨h15, _⟩; rotate_left; (exact absurd h15 (by simp))); have hyy : sv = y := Option.some.inj h15; subst hyy; have hK5 : Below wr.heap.size wr w5 := below_more hK4 hM5 (Nat.le_refl _); have hQ5 := hQ4.fr hF5; have HO5 := Lib.hid (HO.out.fr ((Fr.of_below hK4).trans hF5)).slB)
        | ((with_reducible show Calls _ _ _ w5 _); go_at_call 17; refine (HD2.out _ _ gb gt w5 hQ5 hBk5 HO5.out hK5.size).mono ?_; rintro e w6 ⟨⟨hBk6, HY6⟩, hF6, hM6⟩; (rcases HY6 with ⟨_, _, h16, _⟩ | ⟨_, v6, a6, rfl, ha6, hE6⟩; (exact absurd h16 (by simp))); have hK6 : Below wr.heap.size wr w6 := below_more hK5 hM6 (Nat.le_refl _); have HB6 := Lib.hid (show SlB w6 (.slice (some ⟨G, 0, none⟩) 16 16) sv from (hB5.fr (by unfold TyOk; decide) hF6).slB HSL.out (by decide)); have HO6 := Lib.hid (HO.out.fr (((Fr.of_below hK4).trans hF5).trans hF6)).slB)
        | ((with_reducible show Calls _ _ _ (w6.alloc _) _); go_at_call 12; refine (New_fit _ none [1] _ (by decide) (one_slB w6 1)).mono ?_; rintro e w7 ⟨rfl, hw7⟩; have hL7 : Below w6.heap.size w6 w7 := (by rw [hw7]; exact below_alloc (Below.refl _ _) (Nat.le_refl _) _); clear hw7)
        | (go_at_call 19; refine (Same_any _ _ sv sv w7 (HB6.out.below hL7) (HO6.out.below hL7) (by have := HSL.out; omega)).mono ?_; rintro e w8 ⟨rfl, hD8⟩; have hL8 := below_more hL7 hD8.below0 hL7.size; have hN8 : Below N w w8 := below_more HL.out (below_more hK6 hL8 hK6.size) HZ.out; simp only [beq_self_eq_true])
        | ((with_reducible show Calls _ _ _ w8 _); go_at_call 13; refine (Code_any [a6] 13 _ w8 (HE.out w8 hN8) (hE6.below hL8)).mono ?_; rintro e w9 ⟨rfl, hL9⟩; have hM9 := below_more hL8 hL9 hL8.size; have hN9 : Below N w w9 := below_more hN8 hL9 (by have := hN8.size; have := HN.out; omega))
        | ((with_reducible show Calls _ _ _ w9 _); go_at_call 13; refine (Code_any [] 2 _ w9 (HE.out w9 hN9) rfl).mono ?_; rintro e w10 ⟨rfl, hL10⟩; have hM10 := below_more hM9 hL10 hM9.size; have hN10 : Below N w w10 := below_more hN9 hL10 (by have := hN9.size; have := HN.out; omega))
        | (go_at_call 20; refine (Rows_any rw1 [] wr.heap.size gb gt w10 (hBk6.below hM10)).mono ?_; rintro e w11 ⟨rfl, hw11⟩; have hw12 := hw11.symm; subst hw12; rw [HR1.out]))
      go_ret
      exact ⟨rfl, by rw [HN.out]; exact hN10⟩
end Go.Proofs.YtbbfjlnkhenbiaaDoor
set_option linter.unusedVariables false
set_option linter.unusedSimpArgs false
namespace Go.Proofs.YtbbfjlnkhenbiaaDoor
open Go Go.RowKit Lk
def e5 (k : Int) : Ending := .returned (.tuple #[.pointer none, .iface 68 (.int .i64 k)])
set_option maxHeartbeats 800000 in
set_option maxRecDepth 100000 in
theorem New_out (kind : Int) (v : Value) (bp : Option Addr) (key : List UInt8) (w : World) (h : SlB w v key) (h1 : ¬ kind = 1) (h2 : ¬ kind = 2) (h3 : ¬ kind = 3) : Calls Tryd.prog 12 #[.int .i64 (kind : Int), v, .pointer bp] w fun e w' => e = .returned (.tuple #[.pointer none, .iface 68 (.int .i64 1)]) ∧ w' = w := by
  obtain ⟨A, c, rfl, _⟩ := h
  go_enter Tryd.func12, Tryd.ntmps12
  go_wp2_with fail
  go_ret2
  exact ⟨rfl, rfl⟩
set_option maxHeartbeats 800000 in
set_option maxRecDepth 100000 in
theorem New_no3 (v : Value) (key : List UInt8) (w : World) (h : SlB w v key) : Calls Tryd.prog 12 #[.int .i64 (3 : Int), v, .pointer none] w fun e w' => e = .returned (.tuple #[.pointer none, .iface 68 (.int .i64 1)]) ∧ w' = w := by
  obtain ⟨A, c, rfl, _⟩ := h
  go_enter Tryd.func12, Tryd.ntmps12
  go_wp2_with fail
  go_ret2
  exact ⟨rfl, rfl⟩
set_option maxHeartbeats 800000 in
set_option maxRecDepth 100000 in
theorem New_fit2 (v : Value) (bp : Option Addr) (key : List UInt8) (w : World) (h : SlB w v key) (hf : pfits 2 key.length = false) : Calls Tryd.prog 12 #[.int .i64 (2 : Int), v, .pointer bp] w fun e w' => e = .returned (.tuple #[.pointer none, .iface 68 (.int .i64 2)]) ∧ w' = w := by
  have HF := Lib.hid (fits_any 2 key.length w (.inr rfl))
  rw [hf] at HF
  clear hf
  obtain ⟨A, c, rfl, _⟩ := h
  go_enter Tryd.func12, Tryd.ntmps12
  go_wp2_with (go_at_call 30; refine HF.out.mono ?_; rintro e w0 ⟨rfl, rfl⟩)
  go_ret2
  exact ⟨rfl, rfl⟩
set_option maxHeartbeats 800000 in
set_option maxRecDepth 100000 in
theorem New_fit3 (v : Value) (gb : Nat) (key : List UInt8) (w : World) (h : SlB w v key) (hf : key.length < 1 ∨ 32 < key.length) : Calls Tryd.prog 12 #[.int .i64 (3 : Int), v, .pointer (some ⟨gb, 0, none⟩)] w fun e w' => e = .returned (.tuple #[.pointer none, .iface 68 (.int .i64 2)]) ∧ w' = w := by
  have HF := Lib.hid (fits3_no key.length w hf)
  clear hf
  obtain ⟨A, c, rfl, _⟩ := h
  go_enter Tryd.func12, Tryd.ntmps12
  go_wp2_with (go_at_call 30; refine HF.out.mono ?_; rintro e w0 ⟨rfl, rfl⟩)
  go_ret2
  exact ⟨rfl, rfl⟩
def pfit5 (kind : Nat) (n : Nat) : Bool := if kind = 3 then decide (1 ≤ n ∧ n ≤ 32) else pfits kind n
set_option maxHeartbeats 800000 in
set_option maxRecDepth 100000 in
theorem Fits1 (n : Nat) (w : World) : Calls Tryd.prog 14 #[.int .i64 (1 : Int), .int .i64 n] w fun e w' => e = .returned (.bool (pfits 1 n)) ∧ w' = w := by
  by_cases h16 : n = 16
  · subst h16
    go_enter Tryd.func14, Tryd.ntmps14
    go_wp2
    go_ret
    exact ⟨rfl, rfl⟩
  by_cases h24 : n = 24
  · subst h24
    go_enter Tryd.func14, Tryd.ntmps14
    go_wp2
    go_ret
    exact ⟨rfl, rfl⟩
  have hp := Lib.hid (show ((n : Int) == 16 || (n : Int) == 24 || (n : Int) == 32) = pfits 1 n from by
    rw [Bool.eq_iff_iff]; simp [pfits]; omega)
  have i1 : ¬ (n : Int) = 16 := by omega
  have i2 : ¬ (n : Int) = 24 := by omega
  clear h16 h24
  go_enter Tryd.func14, Tryd.ntmps14
  go_wp2
  go_ret
  exact ⟨by rw [← hp.out]; rfl, rfl⟩
set_option maxHeartbeats 800000 in
set_option maxRecDepth 100000 in
theorem Fits2 (n : Nat) (w : World) : Calls Tryd.prog 14 #[.int .i64 (2 : Int), .int .i64 n] w fun e w' => e = .returned (.bool (pfits 2 n)) ∧ w' = w := by
  by_cases h8 : n = 8
  · subst h8
    go_enter Tryd.func14, Tryd.ntmps14
    go_wp2
    go_ret
    exact ⟨rfl, rfl⟩
  by_cases h16 : n = 16
  · subst h16
    go_enter Tryd.func14, Tryd.ntmps14
    go_wp2
    go_ret
    exact ⟨rfl, rfl⟩
  have hp := Lib.hid (show ((n : Int) == 8 || (n : Int) == 16 || (n : Int) == 24) = pfits 2 n from by
    rw [Bool.eq_iff_iff]; simp [pfits]; omega)
  have i1 : ¬ (n : Int) = 8 := by omega
  have i2 : ¬ (n : Int) = 16 := by omega
  clear h8 h16
  go_enter Tryd.func14, Tryd.ntmps14
  go_wp2
  go_ret
  exact ⟨by rw [← hp.out]; rfl, rfl⟩
theorem Fits3_yes (n : Nat) (w : World) (h1 : 1 ≤ n) (h2 : n ≤ 32) : Calls Tryd.prog 14 #[.int .i64 (3 : Int), .int .i64 n] w fun e w' => e = .returned (.bool true) ∧ w' = w := by
  have i1 : (n : Int) ≥ 1 := by omega
  have i2 : (n : Int) ≤ 32 := by omega
  clear h1 h2
  go_enter Tryd.func14, Tryd.ntmps14
  go_wp2
  go_ret
  exact ⟨rfl, rfl⟩
theorem Fits3_lo (n : Nat) (w : World) (h1 : n < 1) : Calls Tryd.prog 14 #[.int .i64 (3 : Int), .int .i64 n] w fun e w' => e = .returned (.bool false) ∧ w' = w := by
  have i1 : ¬ (n : Int) ≥ 1 := by omega
  clear h1
  go_enter Tryd.func14, Tryd.ntmps14
  go_wp2
  go_ret
  exact ⟨rfl, rfl⟩
theorem Fits3_hi (n : Nat) (w : World) (h1 : 32 < n) : Calls Tryd.prog 14 #[.int .i64 (3 : Int), .int .i64 n] w fun e w' => e = .returned (.bool false) ∧ w' = w := by
  have i1 : (n : Int) ≥ 1 := by omega
  have i2 : ¬ (n : Int) ≤ 32 := by omega
  clear h1
  go_enter Tryd.func14, Tryd.ntmps14
  go_wp2
  go_ret
  exact ⟨rfl, rfl⟩
theorem Fits3_no (n : Nat) (w : World) (h : n < 1 ∨ 32 < n) : Calls Tryd.prog 14 #[.int .i64 (3 : Int), .int .i64 n] w fun e w' => e = .returned (.bool false) ∧ w' = w := h.elim (Fits3_lo n w) (Fits3_hi n w)
end Go.Proofs.YtbbfjlnkhenbiaaDoor
