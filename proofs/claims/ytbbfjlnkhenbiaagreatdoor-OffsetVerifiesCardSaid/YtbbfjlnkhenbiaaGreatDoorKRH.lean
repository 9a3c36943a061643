/- The reference's Xor. -/
import Derived.Test.YtbbfjlnkhenbiaaGreatDoorKB4
import Derived.Test.YtbbfjlnkhenbiaaGreatDoorKB6
import Derived.StillTailTactics
import Derived.Laws.Slices
import Derived.Test.YtbbfjlnkhenbiaaGreatDoorKB5
import Derived.Test.YtbbfjlnkhenbiaaGreatDoorKG0
set_option linter.unusedVariables false
set_option linter.unusedSimpArgs false
namespace Go.Proofs.YtbbfjlnkhenbiaaGreatDoor
open Go.RowKit Lk
set_option maxHeartbeats 1600000 in
set_option maxRecDepth 100000 in
theorem RXor_any (va vb : Value) (a b : List UInt8) (w : World) (ha : SlB w va a) (hb : SlB w vb b) (hab : a.length = b.length) (hmx : a.length ≤ 100000) :
    Calls Tryz.prog 50 #[va, vb] w fun e w' => ∃ v, e = .returned v ∧ Own w' w.heap.size v (pxor a b) ∧ Below w.heap.size w w' := by
  obtain ⟨N, hN⟩ : ∃ N, w.heap.size = N := ⟨_, rfl⟩
  have HN := Lib.hid hN
  obtain ⟨L, hL⟩ : ∃ L, a.length = L := ⟨_, rfl⟩
  have EA := Lib.hid hL
  have EB := Lib.hid (show b.length = L by omega)
  have HX := Lib.hid (show (pxor a b).length = L by rw [pxor_len, hL])
  obtain ⟨A1, c1, rfl, _, b1, b2, n1⟩ := ha
  obtain ⟨A2, c2, rfl, _, b3, b4, n2⟩ := hb
  rw [← hab, hL] at b3 ⊢
  rw [hL] at b1 hmx
  have H1 := Lib.hid n1
  have H2 := Lib.hid n2
  clear hL hab n1 n2 hN
  have hL0 : Below N w w := Below.refl _ _
  have ho0 : Own w N (.slice none 0 0) ((pxor a b).take 0) := own_nil _ _
  go_enter Tryz.func50, Tryz.ntmps50
  go_wp2
  go_loopw [5, 6] (fun ov i wr => ∃ k : Nat, k ≤ L ∧ i = .int .i64 k ∧ Own wr N ov ((pxor a b).take k) ∧ Below N w wr) (fun _ i _ => L - (intOf i).toNat)
  case atStart => exact ⟨0, by omega, rfl, ho0, hL0⟩
  case round =>
    clear ho0 hL0
    obtain ⟨k, hk, rfl, hO, hB⟩ := hrel
    have HO := Lib.hid hO
    have HB := Lib.hid hB
    have HWN := Lib.hid (show N ≤ wr.heap.size from by have := hB.size; have := HN.out; omega)
    by_cases hlt : k < L
    · have HLT := Lib.hid hlt
      obtain ⟨g1, o1, rfl, hr1⟩ := H1.out (by omega)
      obtain ⟨g2, o2, rfl, hr2⟩ := H2.out (by omega)
      have cc1 := cell_below (hr1 k (by rw [EA.out]; exact hlt)) hB (show g1 < N by rw [← HN.out]; exact block_of_cell (hr1 k (by rw [EA.out]; exact hlt)))
      have cc2 := cell_below (hr2 k (by rw [EB.out]; exact hlt)) hB (show g2 < N by rw [← HN.out]; exact block_of_cell (hr2 k (by rw [EB.out]; exact hlt)))
      have hix : (k : Int) < (L : Int) := by omega
      have hx2 := bv_xor (g8 a k) (g8 b k)
      have HTK := Lib.hid (take_one (pxor a b) k (by rw [HX.out]; exact hlt))
      have HAT := Lib.hid (pxor_at a b k (by rw [EA.out]; exact hlt))
      obtain ⟨x, hx⟩ : ∃ x, g8 a k ^^^ g8 b k = x := ⟨_, rfl⟩
      rw [hx] at hx2 HAT
      have HLK := Lib.hid (show ((pxor a b).take k).length = k by rw [List.length_take, HX.out]; omega)
      clear hO hB hr1 hr2 hx
      go_wp2
      have hwn := HWN.out
      go_region_law (refine step_append_b hu_sl hu_u8 (by rfl) _ _ (by rfl) N _ ((pxor a b).take k) k HLK.out (by rfl) (HO.out.alloc _).drew wr.heap.size x (by rfl) (by simp) (by omega) (by simp; omega) ?_; intro g7 cap7 w7 hO7 hG7 hg7)
      all_goals
        have HB2 : Below N w w7 := below_own (below_alloc HB.out HWN.out _).drew (by simp; omega) hG7 (fun q hq => (HO.out.lt q hq).1)
        go_wp2
        go_roundw
        case rel => exact ⟨k + 1, HLT.out, by go_num, by rw [HTK.out, HAT.out]; exact hO7, HB2⟩
        case measure => have := HLT.out; simp [intOf]; omega
    · have hix : ¬ (k : Int) < (L : Int) := by omega
      have HE := Lib.hid (show (pxor a b).take k = pxor a b from List.take_of_length_le (by rw [HX.out]; omega))
      clear hO hB
      go_wp2
      go_ret
      exact ⟨_, rfl, by rw [HN.out]; have := HO.out; rw [HE.out] at this; exact this, by rw [HN.out]; exact HB.out⟩
end Go.Proofs.YtbbfjlnkhenbiaaGreatDoor
set_option linter.unusedVariables false
set_option linter.unusedSimpArgs false
namespace Lk
open Go Go.RowKit
section
variable {P : Program} {ops : Array Oper} {rest : List Oper} {o : Oper} {a : Act} {w : World} {Q : Exit → Act → World → Prop}
theorem append_bg (hu : P.underlying slt = some (.slice u8t)) (hinfo : (P.info? u8t).map (fun i => (i.zero, i.size, i.bytes)) = some (some (.int .u8 0), 1, 1)) (hw : Region.wanted o (yielded ops a.tmps) = true) (s x : Operand)
    (ho : o.op = .call { callee := .builtin .append, args := #[s, x], argTypes := #[slt, slt] }) (base : Nat) (v : Value) (l : List UInt8) (hs : a.eval s = v) (hown : Own w base v l)
    (v2 : Value) (m : List UInt8) (hx : a.eval x = v2) (hm : SlB w v2 m) (hlen : l.length + m.length ≤ 140737488355328) (hbase : base ≤ w.heap.size)
    (h : ∀ v' w', Own w' base v' (l ++ m) → w.grownBy w' v.ownBlock → wpList P ops Q rest (a.put o.dst v') w') : wpList P ops Q (o :: rest) a w := by
  refine wpList_step fun K hK => ?_
  simp only [hw, if_true]
  obtain ⟨i, hi, hz, h1, h2⟩ := info_parts hinfo
  obtain ⟨A, c, rfl, n1, n2, n3, n4⟩ := hm
  cases A with
  | none =>
    obtain rfl := n1 rfl
    have hm0 : m = [] := List.eq_nil_of_length_eq_zero (by omega)
    subst hm0
    rw [List.append_nil] at h
    have hrun := run_append_owned_none (P := P) (w := w) base slt o.type u8t i 1 hu hi v l.length (Bl l) hown
    unfold Oper.wp
    simp [execOp, ho, resolve, invoke, builtin, hs, hx, hrun, Result.andThen]
    exact hK _ _ (h v w hown (World.grownBy.refl _ _))
  | some ad =>
    have hnews : ∀ j u, (Bl m)[j]? = some u → w.cell? (ad.add j) = some u := by
      intro j u hj
      obtain ⟨hjl, rfl⟩ := Bl_get m j u hj
      obtain ⟨g, o', e, hr⟩ := n4 (by omega)
      cases e
      have : (⟨g, o', none⟩ : Addr).add j = ⟨g, o' + j, none⟩ := by unfold Addr.add; split <;> simp_all
      rw [this]
      exact hr j hjl
    refine wp_append_own w s x slt ho base u8t i (.int .u8 0) 1 1 hu hi hz h1 h2 rfl (by decide) v l.length (Bl l) hs hown ad m.length c (Bl m) hx (by rw [Bl_len, Nat.mul_one]) hnews (Bl_one m) (by unfold maxLen; omega) (by omega) hbase ?_
    intro v' w' h3 h4 _
    refine hK _ _ (h v' w' ?_ h4)
    unfold Own
    rw [List.length_append, Bl_app]
    exact h3
end
end Lk
namespace Go.Proofs.YtbbfjlnkhenbiaaGreatDoor
open Go Go.RowKit Lk
theorem huel : Tryz.prog.underlying slt = some (.slice (Tryz.prog.elem slt)) := by kernel_rfl
section
variable {ops : Array Oper} {rest : List Oper} {o : Oper} {a : Act} {w : World} {Q : Exit → Act → World → Prop}
theorem run_from (w : World) (A : Option Addr) (L c k : Nat) (hk : k ≤ L) : (Instr.sliceAt slt (.slice A L c) (some (.int .i64 k)) none none).run Tryz.prog w = .ok (sliced A k L c 1) w := by
  have hsz : (sizeOf (Tryz.prog.elem slt) : Sem Nat).run Tryz.prog w = .ok 1 w := by kernel_rfl
  rw [run_sliceAt_slice w slt _ _ _ _ huel, run_slice_l w slt _ _ _ huel .i64 (k : Int) (by omega) (by omega), hsz]
  simp only [Result.andThen_ok, Int.toNat_natCast]
theorem slB_from {w : World} {A : Option Addr} {L c k : Nat} {l : List UInt8} (h : SlB w (.slice A L c) l) (hk : k ≤ L) : SlB w (sliced A k L c 1) (l.drop k) := by
  obtain ⟨A', c', e, h1, h2, h3, h4⟩ := h
  cases e
  unfold sliced
  refine ⟨_, c - k, by rw [List.length_drop], fun hn => ?_, by rw [List.length_drop]; omega, by omega, fun hc => ?_⟩
  · by_cases e : c = k
    · omega
    · rw [if_neg e] at hn
      cases A with
      | none => have := h1 rfl; omega
      | some ad => cases hn
  · obtain ⟨g, ofs, rfl, hr⟩ := h4 (by omega)
    refine ⟨g, ofs + k, ?_, fun j hj => ?_⟩
    · rw [if_neg (by omega), Option.map_some, Nat.mul_one]
      unfold Addr.add; split <;> simp_all
    · rw [List.length_drop] at hj
      have := hr (k + j) (by omega)
      rw [← Nat.add_assoc] at this
      rw [this]
      unfold g8
      rw [List.getD_eq_getElem?_getD, List.getD_eq_getElem?_getD, List.getElem?_drop]
/-- a slice from k on, whatever its capacity -/
theorem slice_from (hgd : o.guard = none) (x lo : Operand) (ho : o.op = .slice slt x (some lo) none none) (A : Option Addr) (L c k : Nat) (l : List UInt8) (hx : a.eval x = .slice A L c) (hlo : a.eval lo = .int .i64 k) (hs : SlB w (.slice A L c) l) (hk : k ≤ L)
    (h : ∀ A', SlB w (.slice A' (L - k) (c - k)) (l.drop k) → wpList Tryz.prog ops Q rest (a.put o.dst (.slice A' (L - k) (c - k))) w) : wpList Tryz.prog ops Q (o :: rest) a w :=
  wpList_plain hgd fun _ hK => by
    unfold Oper.wp execOp
    simp only [ho, hx, hlo, Option.map_some, Option.map_none, Sem.run_bind, run_from w A L c k hk, Result.andThen_ok]
    exact hK _ _ (h _ (slB_from hs hk))
end
end Go.Proofs.YtbbfjlnkhenbiaaGreatDoor
set_option linter.unusedVariables false
set_option linter.unusedSimpArgs false
namespace Lk
theorem ext_d {a b : List Int} (h : a.length = b.length) (hi : ∀ i, i < a.length → a.getD i 0 = b.getD i 0) : a = b := by
  apply List.ext_getElem h
  intro i h1 h2
  have := hi i h1
  simpa [List.getD_eq_getElem?_getD, h1, h2] using this
theorem getD_app (a b : List Int) (i : Nat) : (a ++ b).getD i 0 = if i < a.length then a.getD i 0 else b.getD (i - a.length) 0 := by
  simp only [List.getD_eq_getElem?_getD, List.getElem?_append]
  split <;> rfl
theorem getD_drop (a : List Int) (n i : Nat) : (a.drop n).getD i 0 = a.getD (n + i) 0 := by
  simp [List.getD_eq_getElem?_getD, List.getElem?_drop]
end Lk

set_option linter.unusedVariables false
set_option linter.unusedSimpArgs false
set_option linter.unusedVariables false
set_option linter.unusedSimpArgs false
set_option linter.unusedVariables false
set_option linter.unusedSimpArgs false
namespace Lk
open Go Go.RowKit
theorem Is_drop (l : List Int) (n : Nat) : (Is l).drop n = Is (l.drop n) := by unfold Is; rw [List.map_drop]
end Lk
set_option linter.unusedVariables false
set_option linter.unusedSimpArgs false
namespace Go.Proofs.YtbbfjlnkhenbiaaGreatDoor
open Go Go.RowKit Lk
set_option maxHeartbeats 1600000 in
set_option maxRecDepth 100000 in
theorem rPad_any (vt : Value) (text : List UInt8) (n : Nat) (w : World) (hs : SlB w vt text) (hl : text.length ≤ 1000000) (hn1 : 0 < n) (hn2 : n ≤ 64) :
    Calls Tryz.prog 59 #[vt, .int .i64 n] w fun e w' => ∃ v, e = .returned v ∧ Own w' w.heap.size v (ppad text n) ∧ Below w.heap.size w w' := by
  obtain ⟨N, hN⟩ : ∃ N, w.heap.size = N := ⟨_, rfl⟩
  have HS := Lib.hid hs
  have hvt : ∃ A l c, vt = .slice A l c := by obtain ⟨A, c, e, _⟩ := hs; exact ⟨A, _, c, e⟩
  obtain ⟨At, lt, ct, rfl⟩ := hvt
  obtain ⟨L, eL⟩ : ∃ L, text.length = L := ⟨_, rfl⟩
  obtain ⟨Z, eZ⟩ : ∃ Z, pzeros L n = Z := ⟨_, rfl⟩
  have hz := pzeros_lt L n hn1
  rw [eZ] at hz
  have HST := Lib.hid (fun j (hj : j ≤ Z) => pad_step L n j hn1 (by rw [eZ]; exact hj))
  rw [eZ] at HST
  have HP := Lib.hid (show ppad text n = text ++ 128 :: List.replicate Z 0 by unfold ppad; rw [eL, eZ])
  rw [eL] at hl
  have EL := Lib.hid eL
  have HN := Lib.hid hN
  clear hs eL eZ hN
  go_enter Tryz.func59, Tryz.ntmps59
  go_wp2_with (first
    | (at_builtin; (with_reducible show wpList _ _ _ _ _ (World.alloc w _)); refine append_b hu_sl hu_u8 rfl _ _ rfl N _ [] (by rfl) (own_lit0 w _ (Nat.le_of_eq HN.out.symm)) _ text (by rfl) (HS.out.alloc _) (by rw [EL.out]; simp; omega) (by have := HN.out; simp; omega) ?_; intro v1 w1 hO1 hG1; have HO1 := Lib.hid (show Own w1 N v1 text from hO1); have hL1 : Below N w w1 := (below_new ((Below.refl N w).alloc (Nat.le_of_eq HN.out.symm) _) (by have := HN.out; simp; omega) hG1 (Nat.le_of_eq HN.out.symm)); have HL1 := Lib.hid hL1; have hs1 : N ≤ w1.heap.size := (by have h9 := hL1.size; rw [HN.out] at h9; exact h9); obtain ⟨A1, c1, e1, _⟩ := HO1.out.slB.formc EL.out; subst e1; clear hO1 hG1 hL1)
    | (at_builtin; refine append_b hu_sl hu_u8 rfl _ _ rfl N _ text (by rfl) (HO1.out.alloc _) _ [128] (by rfl) (one_slB w1 128) (by rw [EL.out]; show L + 1 ≤ _; omega) (by show N ≤ (w1.heap.push _).size; simp; omega) ?_; intro v2 w2 hO2 hG2; have HO2 := Lib.hid hO2; have HL2 := Lib.hid (show Below N w w2 from below_own (HL1.out.alloc (by omega) _) (by show N ≤ (w1.heap.push _).size; simp; omega) hG2 (fun k hk => (HO1.out.lt k hk).1)); clear hO2 hG2))
  have hn0 : ¬ (n : Int) = 0 := by omega
  go_loopw [5] (fun o wr => ∃ (j : Nat) (vo : Value), j ≤ Z ∧ vo = o ∧ Own wr N vo (text ++ 128 :: List.replicate j 0) ∧ Below N w wr) (fun o _ => L + 1 + Z - lenOf o)
  case atStart => exact ⟨0, _, by omega, rfl, HO2.out, HL2.out⟩
  case round =>
    obtain ⟨j, o, hj, ho0, hO, hL⟩ := hrel
    subst ho0
    clear HO2 HL2
    have hlen : (text ++ 128 :: List.replicate j (0 : UInt8)).length = L + 1 + j := by simp [EL.out]; omega
    have HO := Lib.hid hO
    have HL := Lib.hid hL
    have hwsz := hL.size
    rw [HN.out] at hwsz
    obtain ⟨T, eT⟩ : ∃ T, L + 1 + j = T := ⟨_, rfl⟩
    obtain ⟨g, cap, rfl, hg, hg', hrd, hfr, hc⟩ := hO.form (by rw [hlen]; omega)
    rw [hlen, eT] at hc
    have HLEN := Lib.hid (hlen.trans eT)
    rw [HLEN.out] at HO ⊢
    have hTb : T ≤ 2000000 := by omega
    have ET := Lib.hid eT
    have hst := HST.out j hj
    rw [eT] at hst
    clear hO hL hlen eT hrd hfr
    by_cases hjz : j = Z
    · have hm0 : T % n = 0 := hst.2 hjz
      have hm : ((T : Int) % (n : Int) != 0) = false := by
        have : ((T : Int) % (n : Int)) = ((T % n : Nat) : Int) := by simp
        rw [this, hm0]; rfl
      have HJ := Lib.hid hjz
      clear hst hm0 hjz
      go_wp2
      go_ret
      refine ⟨_, rfl, ?_, by rw [HN.out]; exact HL.out⟩
      rw [HN.out, HP.out]
      have := HO.out
      rw [HJ.out] at this
      exact this
    · have hm0 : ¬ T % n = 0 := fun e => hjz (hst.1 e)
      have hm : ((T : Int) % (n : Int) != 0) = true := by
        have : ((T : Int) % (n : Int)) = ((T % n : Nat) : Int) := by simp
        rw [this]; simp; omega
      have HJ := Lib.hid (show j < Z by omega)
      clear hst hm0 hjz
      go_wp2_with (at_builtin; refine append_b hu_sl hu_u8 rfl _ _ rfl N _ _ (by rfl) (HO.out.alloc _) _ [0] (by rfl) (one_slB wr 0) (by rw [HLEN.out]; show T + 1 ≤ _; omega) (by show N ≤ (wr.heap.push _).size; simp; omega) ?_; intro v2 w2 hO2 hG2; have HO2 := Lib.hid hO2; have HL2 := Lib.hid (show Below N w w2 from below_own (HL.out.alloc (by omega) _) (by show N ≤ (wr.heap.push _).size; simp; omega) hG2 (fun k hk => (HO.out.lt k hk).1)); clear hO2 hG2)
      go_roundw
      case rel =>
        refine ⟨j + 1, _, HJ.out, rfl, ?_, HL2.out⟩
        have := HO2.out
        rw [List.append_assoc] at this
        have e : (128 :: List.replicate j (0 : UInt8)) ++ [0] = 128 :: List.replicate (j + 1) 0 := by rw [List.cons_append, List.replicate_succ' ]
        rw [e] at this
        exact this
      case measure =>
        have h1 := HO2.out.len
        rw [List.length_append, HLEN.out] at h1
        have h2 := ET.out
        have h3 : j < Z := HJ.out
        simp only [List.length_singleton] at h1
        show L + 1 + Z - lenOf v2 < L + 1 + Z - T
        omega
section
variable {ops : Array Oper} {o : Oper} {a : Act} {w : World}
theorem run_u8len (w : World) : (sizeOf (Tryz.prog.elem slt) : Sem Nat).run Tryz.prog w = .ok 1 w := by kernel_rfl
theorem yields_fromB {S : World → Prop} (hw : Region.wanted o (yielded ops a.tmps) = true) (x lo : Operand) (ho : o.op = .slice slt x (some lo) none none) (g k L c n : Nat) (hx : a.eval x = .slice (some ⟨g, k, none⟩) L c) (hlo : a.eval lo = .int .i64 n) (h1 : n ≤ L) (h2 : L ≤ c) (hc : ¬ c = n) : YieldsIf Tryz.prog ops S o (.slice (some ⟨g, k + n, none⟩) (L - n) (c - n)) a := .inl ⟨hw, fun w hS => by
    unfold execOp
    simp only [ho, hx, hlo, Option.map_some, Option.map_none]
    rw [Sem.run_bind, run_sliceAt_slice w slt _ _ _ _ huel, run_slice_l w slt _ _ _ huel .i64 (n : Int) (by omega) (by omega), run_u8len]
    simp only [Result.andThen_ok, Sem.run_pure, sliced, Int.toNat_natCast, if_neg hc, Option.map_some, Nat.mul_one]
    rw [show (⟨g, k, none⟩ : Addr).add n = ⟨g, k + n, none⟩ from by unfold Addr.add; split <;> simp_all]⟩
theorem yields_midB {S : World → Prop} (hw : Region.wanted o (yielded ops a.tmps) = true) (x lo hi : Operand) (ho : o.op = .slice slt x (some lo) (some hi) none) (g k L c n m : Nat) (hx : a.eval x = .slice (some ⟨g, k, none⟩) L c) (hlo : a.eval lo = .int .i64 n) (hhi : a.eval hi = .int .i64 m) (h1 : n ≤ m) (h2 : m ≤ c) (hc : ¬ c = n) : YieldsIf Tryz.prog ops S o (.slice (some ⟨g, k + n, none⟩) (m - n) (c - n)) a := .inl ⟨hw, fun w hS => by
    unfold execOp
    simp only [ho, hx, hlo, hhi, Option.map_some, Option.map_none]
    rw [Sem.run_bind, run_sliceAt_slice w slt _ _ _ _ huel, run_slice_lh w slt _ _ _ huel .i64 .i64 (n : Int) (m : Int) (by omega) (by omega) (by omega), run_u8len]
    simp only [Result.andThen_ok, Sem.run_pure, sliced, Int.toNat_natCast, if_neg hc, Option.map_some, Nat.mul_one]
    rw [show (⟨g, k, none⟩ : Addr).add n = ⟨g, k + n, none⟩ from by unfold Addr.add; split <;> simp_all]⟩
end
end Go.Proofs.YtbbfjlnkhenbiaaGreatDoor
