/- Notes, chained: audit.Apply. -/
import Derived.Test.YtpfmhohldfnhmaaKAU0
import Derived.Laws.IdiomStrings
import Derived.Test.YtpfmhohldfnhmaaKB5
import Derived.Laws.StructEq
import Derived.Test.YtpfmhohldfnhmaaKB6
set_option linter.unusedVariables false
set_option linter.unusedSimpArgs false
namespace Go.Proofs.Ytpfmhohldfnhmaa
open Go.RowKit Lk
set_option maxHeartbeats 1600000 in
set_option maxRecDepth 100000 in
theorem Apply_bad (vk ve : Value) (z : Int) (m e : List UInt8) (w : World) (he : SlB w ve e) (hel : e.length ≤ 1000) (hm : m.length = 16) (h5 : e.length = 21 → g8 e 0 ≠ 5) (h6 : 0 < e.length → g8 e 0 ≠ 6) :
    Calls Try.prog 7 #[vk, .agg (ch z m), ve] w fun e w' => e = .returned (.tuple #[.agg (ch z m), .iface 49 (.int .i64 6)]) ∧ Below w.heap.size w w' := by
  obtain ⟨N, hN⟩ : ∃ N, w.heap.size = N := ⟨_, rfl⟩
  have HN := Lib.hid hN
  have HM := Lib.hid hm
  obtain ⟨L, hL⟩ : ∃ L, e.length = L := ⟨_, rfl⟩
  have HE := Lib.hid (fun (w' : World) (hw' : Below N w w') => he.below (by rw [hN]; exact hw'))
  obtain ⟨A, c, rfl⟩ := he.form hL
  by_cases h0 : L = 0
  · subst h0
    clear he hel hm h5 h6 hL
    go_enter Try.func7, Try.ntmps7
    go_wp2_with (first
      | ((with_reducible show wpList _ _ _ _ _ w); refine box_ch (w := w) rfl 27 _ rfl z m (by rfl) ?_; intro w1 hC1 hG1 hz1; have hM1 : Below N w w1 := (below_none (Below.refl _ _) (by omega) hG1); rw [hN] at hC1 hz1)
      | ((with_reducible show wpList _ _ _ _ _ w1); refine alloc_row (w := w1) rfl 27 rfl (.agg (ch 0 (List.replicate 16 0))) 17 (fun _ => by kernel_rfl) (by kernel_rfl) ?_; intro w2 hR2 _ hG2 hz2; have hC2 := hC1.old hG2 (by simp); have hM2 : Below N w w2 := (below_none hM1 (by omega) hG2); rw [hz1] at hR2 ⊢)
      | (refine load_ch (by rfl) _ rfl N 27 z m (by rfl) (by assumption) HM.out ?_)
      | (refine store_ch rfl 27 _ _ rfl (N + 1) 27 z m (by rfl) (by rfl) (by assumption) HM.out (by kernel_rfl) ?_; intro w3 hC3 hG3 hz3))
    refine bodyPost_ret (results_ch rfl _ _ (N + 1) 27 _ m rfl hC3 HM.out) rfl ?_
    rw [HN.out]
    exact ⟨rfl, below_new (by assumption) (by omega) hG3 (by omega)⟩
  · obtain ⟨g, o, rfl, hrd⟩ : ∃ g o, A = some ⟨g, o, none⟩ ∧ Rd w g o e := by
      obtain ⟨A', c', e1, h1, h2, h3, h4⟩ := he
      injection e1 with e1 e2 e3
      subst e1 e3
      exact h4 (by omega)
    have hgN : g < N := by rw [← hN]; exact block_of_cell (hrd 0 (by omega))
    have HRD := Lib.hid (fun (w' : World) (hw' : Below N w w') => (show w'.cell? ⟨g, o, none⟩ = some (.int .u8 (bv (g8 e 0))) from (hrd.below hw' hgN).cell 0 (by omega)))
    obtain ⟨b, hb⟩ : ∃ b, g8 e 0 = b := ⟨_, rfl⟩
    rw [hb] at HRD h5 h6
    have h6' : ¬ bv b = 6 := by
      have := h6 (by omega)
      intro hh; exact this (by have : bv b = bv 6 := hh; unfold bv at this; exact UInt8.toNat_inj.1 (by omega))
    have hL0 : 0 < (L : Int) := by omega
    by_cases h21 : L = 21
    · subst h21
      have h5' : ¬ bv b = 5 := by
        have := h5 hL
        intro hh; exact this (by have : bv b = bv 5 := hh; unfold bv at this; exact UInt8.toNat_inj.1 (by omega))
      clear he hel hm h5 h6 hL hrd hb
      go_enter Try.func7, Try.ntmps7
      go_wp2_with (first
        | ((with_reducible show wpList _ _ _ _ _ w); refine box_ch (w := w) rfl 27 _ rfl z m (by rfl) ?_; intro w1 hC1 hG1 hz1; have hM1 : Below N w w1 := (below_none (Below.refl _ _) (by omega) hG1); rw [hN] at hC1 hz1)
        | ((with_reducible show wpList _ _ _ _ _ w1); refine alloc_row (w := w1) rfl 27 rfl (.agg (ch 0 (List.replicate 16 0))) 17 (fun _ => by kernel_rfl) (by kernel_rfl) ?_; intro w2 hR2 _ hG2 hz2; have hC2 := hC1.old hG2 (by simp); have hM2 : Below N w w2 := (below_none hM1 (by omega) hG2); have hb2 := (HRD.out w2 hM2); rw [hz1] at hR2 ⊢)
        | (refine load_ch (by rfl) _ rfl N 27 z m (by rfl) (by assumption) HM.out ?_)
        | (refine store_ch rfl 27 _ _ rfl (N + 1) 27 z m (by rfl) (by rfl) (by assumption) HM.out (by kernel_rfl) ?_; intro w3 hC3 hG3 hz3))
      refine bodyPost_ret (results_ch rfl _ _ (N + 1) 27 _ m rfl hC3 HM.out) rfl ?_
      rw [HN.out]
      exact ⟨rfl, below_new (by assumption) (by omega) hG3 (by omega)⟩
    · have h21' : ¬ (L : Int) = 21 := by omega
      clear he hel hm h5 h6 hL hrd hb
      go_enter Try.func7, Try.ntmps7
      go_wp2_with (first
        | ((with_reducible show wpList _ _ _ _ _ w); refine box_ch (w := w) rfl 27 _ rfl z m (by rfl) ?_; intro w1 hC1 hG1 hz1; have hM1 : Below N w w1 := (below_none (Below.refl _ _) (by omega) hG1); rw [hN] at hC1 hz1)
        | ((with_reducible show wpList _ _ _ _ _ w1); refine alloc_row (w := w1) rfl 27 rfl (.agg (ch 0 (List.replicate 16 0))) 17 (fun _ => by kernel_rfl) (by kernel_rfl) ?_; intro w2 hR2 _ hG2 hz2; have hC2 := hC1.old hG2 (by simp); have hM2 : Below N w w2 := (below_none hM1 (by omega) hG2); have hb2 := (HRD.out w2 hM2); rw [hz1] at hR2 ⊢)
        | (refine load_ch (by rfl) _ rfl N 27 z m (by rfl) (by assumption) HM.out ?_)
        | (refine store_ch rfl 27 _ _ rfl (N + 1) 27 z m (by rfl) (by rfl) (by assumption) HM.out (by kernel_rfl) ?_; intro w3 hC3 hG3 hz3))
      refine bodyPost_ret (results_ch rfl _ _ (N + 1) 27 _ m rfl hC3 HM.out) rfl ?_
      rw [HN.out]
      exact ⟨rfl, below_new (by assumption) (by omega) hG3 (by omega)⟩
end Go.Proofs.Ytpfmhohldfnhmaa
set_option linter.unusedVariables false
set_option linter.unusedSimpArgs false
namespace Lk
open Go Go.RowKit
/-- the string of these bytes -/
def bs (l : List UInt8) : ByteArray := ⟨l.toArray⟩
theorem bs_size (l : List UInt8) : (bs l).size = l.length := by unfold bs; show l.toArray.size = _; simp
theorem sb_bs (l : List UInt8) : sb (bs l) = l := by unfold sb bs; simp
theorem bs_sb (s : ByteArray) : bs (sb s) = s := by unfold bs sb; simp
section
variable {P : Program} {ops : Array Oper} {rest : List Oper} {o : Oper} {a : Act} {w : World} {Q : Exit → Act → World → Prop} {K : Act → World → Prop} {i : Nat}
theorem run_conv (hu : P.underlying slt = some (.slice u8t)) (he : P.underlying u8t = some (.int .u8)) (hs : P.underlying strt = some .string) (g k c L : Nat) (l : List UInt8) (w : World) (hl : l.length = L) (hR : 0 < L → Rd w g k l) :
    (convert slt strt (.slice (some ⟨g, k, none⟩) L c)).run P w = .ok (.string (bs l)) w := by
  subst hl
  refine run_convert_bytes_back w slt strt u8t ⟨g, k, none⟩ c l hu he hs ?_
  intro j hj
  have : (⟨g, k, none⟩ : Addr).add j = ⟨g, k + j, none⟩ := by unfold Addr.add; split <;> simp_all
  rw [this, hR (by omega) j hj]
  simp [bv, g8, hj]
theorem conv_g (hw : Region.wanted o (yielded ops a.tmps) = true) (hu : P.underlying slt = some (.slice u8t)) (he : P.underlying u8t = some (.int .u8)) (hs : P.underlying strt = some .string) (x : Operand) (ho : o.op = .convert slt strt x) (g k c L : Nat) (l : List UInt8) (hx : a.eval x = .slice (some ⟨g, k, none⟩) L c) (hl : l.length = L) (hR : 0 < L → Rd w g k l)
    (h : wpList P ops Q rest (a.put o.dst (.string (bs l))) w) : wpList P ops Q (o :: rest) a w :=
  wpList_step fun K hK => by
    simp only [hw, if_true]
    unfold Oper.wp execOp
    simp only [ho, hx, Sem.run_bind, run_conv hu he hs g k c L l w hl hR, Sem.run_pure, Result.andThen_ok]
    exact hK _ _ h
theorem yields_conv {S : World → Prop} (hw : Region.wanted o (yielded ops a.tmps) = true) (hu : P.underlying slt = some (.slice u8t)) (he : P.underlying u8t = some (.int .u8)) (hs : P.underlying strt = some .string) (x : Operand) (ho : o.op = .convert slt strt x) (g k c L : Nat) (l : List UInt8) (hx : a.eval x = .slice (some ⟨g, k, none⟩) L c) (hl : l.length = L) (hR : ∀ w, S w → 0 < L → Rd w g k l) : YieldsIf P ops S o (.string (bs l)) a := .inl ⟨hw, fun w hS => by
    unfold execOp
    simp only [ho, hx, Sem.run_bind, run_conv hu he hs g k c L l w hl (hR w hS), Sem.run_pure, Result.andThen_ok]⟩
end
theorem Rd.tail {w : World} {g o : Nat} {b : UInt8} {l : List UInt8} (h : Rd w g o (b :: l)) : Rd w g (o + 1) l := fun k hk => by
  have := h (k + 1) (by simp; omega)
  rw [show o + 1 + k = o + (k + 1) by omega, this]
  simp [g8]
end Lk
namespace Go.Proofs.Ytpfmhohldfnhmaa
open Go.RowKit Lk
theorem hu_b : Try.prog.underlying u8t = some (.int .u8) := by kernel_rfl
set_option maxHeartbeats 1600000 in
set_option maxRecDepth 100000 in
theorem Apply_unnoted (vk ve : Value) (z : Int) (m t : List UInt8) (w : World) (he : SlB w ve (6 :: t)) (hel : t.length ≤ 1000) (hm : m.length = 16) (h : t.length = 0 ∨ 60 < t.length) :
    Calls Try.prog 7 #[vk, .agg (ch z m), ve] w fun e w' => e = .returned (.tuple #[.agg (ch z m), .iface 49 (.int .i64 6)]) ∧ Below w.heap.size w w' := by
  obtain ⟨N, hN⟩ : ∃ N, w.heap.size = N := ⟨_, rfl⟩
  have HN := Lib.hid hN
  have HM := Lib.hid hm
  obtain ⟨T, hT⟩ : ∃ T, t.length = T := ⟨_, rfl⟩
  have hL : (6 :: t).length = T + 1 := by rw [List.length_cons, hT]
  obtain ⟨L, eL⟩ : ∃ L, T + 1 = L := ⟨_, rfl⟩
  rw [eL] at hL
  obtain ⟨A, c, rfl, hcL⟩ := he.formc hL
  obtain ⟨g, o, rfl, hrd⟩ : ∃ g o, A = some ⟨g, o, none⟩ ∧ Rd w g o (6 :: t) := by
    obtain ⟨A', c', e1, h1, h2, h3, h4⟩ := he
    injection e1 with e1 e2 e3
    subst e1 e3
    exact h4 (by omega)
  have hgN : g < N := by rw [← hN]; exact block_of_cell (hrd 0 (by omega))
  have HRD := Lib.hid (fun (w' : World) (hw' : Below N w w') => (show w'.cell? ⟨g, o, none⟩ = some (.int .u8 6) from (hrd.below hw' hgN).cell 0 (by omega)))
  have HRT := Lib.hid (fun (w' : World) (hw' : Below N w w') => (hrd.below hw' hgN).tail)
  have HNO := Lib.hid (fun (w' : World) => noted_no (bs t) w' (by rw [bs_size]; omega) (by rw [bs_size]; exact h))
  have HT := Lib.hid (show t.length = L - 1 by omega)
  have HCV := Lib.hid (fun (w' : World) (hw' : Below N w w') => (show (convert 22 9 (.slice (some ⟨g, o + 1, none⟩) (L - 1) (c - 1))).run Try.prog w' = .ok (.string (bs t)) w' from run_conv hu_sl hu_b hu_str g (o + 1) (c - 1) (L - 1) t w' HT.out (fun _ => (hrd.below hw' hgN).tail)))
  have HCV0 := Lib.hid (fun (hc : c = 1) (w' : World) => (show (convert 22 9 (.slice (some ⟨g, o, none⟩) (L - 1) 0)).run Try.prog w' = .ok (.string (bs t)) w' from run_conv hu_sl hu_b hu_str g o 0 (L - 1) t w' HT.out (fun hh => by omega)))
  have hLT : (L : Int) - 1 = (T : Int) := by omega
  have hL0 : 0 < (L : Int) := by omega
  have hL1 : (1 : Int) ≤ (L : Int) := by omega
  have hLc : (L : Int) ≤ (c : Int) := by omega
  have h21 : ¬ (L : Int) = 21 := by omega
  clear he hel hm h hL hrd hT
  go_enter Try.func7, Try.ntmps7
  go_wp2_with (first
    | ((with_reducible show wpList _ _ _ _ _ w); refine box_ch (w := w) rfl 27 _ rfl z m (by rfl) ?_; intro w1 hC1 hG1 hz1; have hM1 : Below N w w1 := (below_none (Below.refl _ _) (by omega) hG1); rw [hN] at hC1 hz1)
    | ((with_reducible show wpList _ _ _ _ _ w1); refine alloc_row (w := w1) rfl 27 rfl (.agg (ch 0 (List.replicate 16 0))) 17 (fun _ => by kernel_rfl) (by kernel_rfl) ?_; intro w2 hR2 _ hG2 hz2; have hC2 := hC1.old hG2 (by simp); have hM2 : Below N w w2 := (below_none hM1 (by omega) hG2); have hb2 := (HRD.out w2 hM2); rw [hz1] at hR2 ⊢)
    | (rw [HCV.out w2 hM2])
    | (rw [HCV0.out (by assumption) w2])
    | (go_at_call 19; refine (HNO.out w2).mono ?_; rintro e wq ⟨rfl, ewq⟩; subst ewq)
    | (refine load_ch (by rfl) _ rfl N 27 z m (by rfl) (by assumption) HM.out ?_)
    | (refine store_ch rfl 27 _ _ rfl (N + 1) 27 z m (by rfl) (by rfl) (by assumption) HM.out (by kernel_rfl) ?_; intro w3 hC3 hG3 hz3))
  all_goals
    refine bodyPost_ret (results_ch rfl _ _ (N + 1) 27 _ m rfl (by assumption) HM.out) rfl ?_
    rw [HN.out]
    exact ⟨rfl, below_new (by assumption) (by omega) (by assumption) (by omega)⟩
end Go.Proofs.Ytpfmhohldfnhmaa
set_option linter.unusedVariables false
set_option linter.unusedSimpArgs false
namespace Go.Proofs.Ytpfmhohldfnhmaa
open Go.RowKit Lk
theorem hue : Try.prog.underlying slt = some (.slice (Try.prog.elem slt)) := by kernel_rfl
section
variable {ops : Array Oper} {o : Oper} {a : Act}
theorem yields_chain {S : World → Prop} (hw : Region.wanted o (yielded ops a.tmps) = true) (x : Operand) (ho : o.op = .load cht x) (g T : Nat) (c : Int) (m : List UInt8) (hx : a.eval x = .pointer (some ⟨g, 0, none⟩)) (hB : ∀ w, S w → ChB w g T c m) (hm : m.length = 16) : YieldsIf Try.prog ops S o (.agg (ch c m)) a := .inl ⟨hw, fun w hS => by
    unfold execOp
    simp only [ho, hx, Instr.loadAt, Instr.sureAddr, Sem.run_bind, Sem.run_pure, Result.andThen_ok, load_chain w g T c m (hB w hS) hm]⟩
theorem yields_tail {S : World → Prop} (hw : Region.wanted o (yielded ops a.tmps) = true) (ty : TypeId) (x : Operand) (ho : o.op = .slice ty x (some (.const (.int .i64 1))) none none) (hty : ty = slt) (g k L c : Nat) (hx : a.eval x = .slice (some ⟨g, k, none⟩) L c) (h1 : 1 ≤ L) (h2 : L ≤ c) (hc : ¬ c = 1) : YieldsIf Try.prog ops S o (.slice (some ⟨g, k + 1, none⟩) (L - 1) (c - 1)) a := .inl ⟨hw, fun w hS => by
    subst hty
    have i1 : (1 : Int) ≤ (L : Int) := by omega
    have i2 : (L : Int) ≤ (c : Int) := by omega
    have hu := hu_sl
    unfold execOp
    have he : Act.eval a (.const (.int .i64 1)) = .int .i64 1 := rfl
    simp only [ho, hx, he, Option.map_some, Option.map_none]
    have hsz : (sizeOf (Try.prog.elem slt) : Sem Nat).run Try.prog w = .ok 1 w := by kernel_rfl
    rw [Sem.run_bind, run_sliceAt_slice w slt _ _ _ _ hue, run_slice_l w slt _ _ _ hue .i64 1 (by decide) i1, hsz]
    simp only [Result.andThen_ok, Sem.run_pure, sliced, Int.toNat_one, if_neg hc, Option.map_some, Nat.mul_one]
    rw [show (⟨g, k, none⟩ : Addr).add 1 = ⟨g, k + 1, none⟩ from by unfold Addr.add; split <;> simp_all]⟩
end
set_option maxHeartbeats 1600000 in
set_option maxRecDepth 100000 in
theorem Apply_note (vk ve q : Value) (z z2 : Int) (m m2 t : List UInt8) (w : World) (he : SlB w ve (6 :: t)) (hm : m.length = 16) (hm2 : m2.length = 16) (h1 : 1 ≤ t.length) (h2 : t.length ≤ 60)
    (hx : ∀ w', Below w.heap.size w w' → Calls Try.prog 10 #[vk, .agg (ch z m), .string (bs t)] w' fun e w'' => e = .returned (.tuple #[.agg (ch z2 m2), q]) ∧ Below w'.heap.size w' w'') :
    Calls Try.prog 7 #[vk, .agg (ch z m), ve] w fun e w' => e = .returned (.tuple #[.agg (ch z2 m2), q]) ∧ Below w.heap.size w w' := by
  obtain ⟨N, hN⟩ : ∃ N, w.heap.size = N := ⟨_, rfl⟩
  rw [hN] at hx
  have HX := Lib.hid hx
  have HN := Lib.hid hN
  have HM := Lib.hid hm
  have HM2 := Lib.hid hm2
  obtain ⟨T, hT⟩ : ∃ T, t.length = T := ⟨_, rfl⟩
  have hL : (6 :: t).length = T + 1 := by rw [List.length_cons, hT]
  obtain ⟨L, eL⟩ : ∃ L, T + 1 = L := ⟨_, rfl⟩
  rw [eL] at hL
  obtain ⟨A, c, rfl, hcL⟩ := he.formc hL
  obtain ⟨g, o, rfl, hrd⟩ : ∃ g o, A = some ⟨g, o, none⟩ ∧ Rd w g o (6 :: t) := by
    obtain ⟨A', c', e1, h1, h2, h3, h4⟩ := he
    injection e1 with e1 e2 e3
    subst e1 e3
    exact h4 (by omega)
  have hgN : g < N := by rw [← hN]; exact block_of_cell (hrd 0 (by omega))
  have HRD := Lib.hid (fun (w' : World) (hw' : Below N w w') => (show w'.cell? ⟨g, o, none⟩ = some (.int .u8 6) from (hrd.below hw' hgN).cell 0 (by omega)))
  have HNO := Lib.hid (fun (w' : World) => noted_yes (bs t) w' (by rw [bs_size]; omega) (by rw [bs_size]; exact h2))
  have HT := Lib.hid (show t.length = L - 1 by omega)
  have HCV := Lib.hid (fun (w' : World) (hw' : Below N w w') => (show (convert 22 9 (.slice (some ⟨g, o + 1, none⟩) (L - 1) (c - 1))).run Try.prog w' = .ok (.string (bs t)) w' from run_conv hu_sl hu_b hu_str g (o + 1) (c - 1) (L - 1) t w' HT.out (fun _ => (hrd.below hw' hgN).tail)))
  have HRR := Lib.hid (fun (w' : World) (hw' : Below N w w') => hrd.below hw' hgN)
  have eLx : 1 ≤ L := by omega
  have hL0 : 0 < (L : Int) := by omega
  have hL1 : (1 : Int) ≤ (L : Int) := by omega
  have hLc : (L : Int) ≤ (c : Int) := by omega
  have hc1 : ¬ c = 1 := by omega
  have h5 : L = 21 → ¬ (6 : Int) = 5 := fun _ => by decide
  clear he hm hL hrd hx hm2
  have run : ∀ b : Bool, decide ((L : Int) = 21) = b → Calls Try.prog 7 #[vk, .agg (ch z m), .slice (some ⟨g, o, none⟩) L c] w fun e w' => e = .returned (.tuple #[.agg (ch z2 m2), q]) ∧ Below w.heap.size w w' := by
    intro b hb
    have hb' : ((L : Int) == 21) = b := by rw [← hb]; rfl
    cases b
    all_goals
      go_enter Try.func7, Try.ntmps7
      go_wp2_with (first
        | ((with_reducible show wpList _ _ _ _ _ w); refine box_ch (w := w) rfl 27 _ rfl z m (by rfl) ?_; intro w1 hC1 hG1 hz1; have hM1 : Below N w w1 := (below_none (Below.refl _ _) (by omega) hG1); rw [hN] at hC1 hz1)
        | ((with_reducible show wpList _ _ _ _ _ w1); refine alloc_row (w := w1) rfl 27 rfl (.agg (ch 0 (List.replicate 16 0))) 17 (fun _ => by kernel_rfl) (by kernel_rfl) ?_; intro w2 hR2 _ hG2 hz2; have hC2 := hC1.old hG2 (by simp); have hM2 : Below N w w2 := (below_none hM1 (by omega) hG2); have hb2 := (HRD.out w2 hM2); rw [hz1] at hR2 ⊢)
        | (rw [HCV.out w2 hM2])
        | (go_at_call 19; refine (HNO.out w2).mono ?_; rintro e wq ⟨rfl, ewq⟩; subst ewq))
      have hrdq : Rd wq g o (6 :: t) := HRR.out wq hM2
      refine wp_region_held (S := fun w' => ChB w' N 27 z m ∧ Rd w' g o (6 :: t) ∧ Row w' (N + 1) 27 17 ∧ Below N w w') (by kernel_rfl) ?_
      show wpAnyH _ _ _ _ _ 10 _ _ wq.drew
      have hC6 : ChB wq.drew N 27 z m := hC2
      have hR6 : Row wq.drew (N + 1) 27 17 := hR2
      have hr6 : Rd wq.drew g o (6 :: t) := hrdq
      have hM6 : Below N w wq.drew := hM2.drew
      have hz6 : N + 2 ≤ wq.drew.heap.size := by show N + 2 ≤ wq.heap.size; omega
      obtain ⟨w6, ew6⟩ : ∃ x, wq.drew = x := ⟨_, rfl⟩
      rw [ew6] at hC6 hR6 hr6 hM6 hz6 ⊢
      have hS6 : (fun w' => ChB w' N 27 z m ∧ Rd w' g o (6 :: t) ∧ Row w' (N + 1) 27 17 ∧ Below N w w') w6 := ⟨hC6, hr6, hR6, hM6⟩
      refine wpAnyH_take (i := 0) rfl (by kernel_rfl) (by kernel_rfl) (by kernel_rfl) (fun _ _ _ h => h) (yields_val (by kernel_rfl) (vk) (fun w => by kernel_rfl)) hS6 ?_
      refine wpAnyH_take (i := 1) rfl (by kernel_rfl) (by kernel_rfl) (by kernel_rfl) (fun _ _ _ h => h) (yields_chain (by kernel_rfl) _ rfl N 27 z m (by kernel_rfl) (fun w' hw' => hw'.1) HM.out) hS6 ?_
      refine wpAnyH_take (i := 2) rfl (by kernel_rfl) (by kernel_rfl) (by kernel_rfl) (fun _ _ _ h => h) (yields_val (by kernel_rfl) (.slice (some ⟨g, o, none⟩) L c) (fun w => by kernel_rfl)) hS6 ?_
      refine wpAnyH_take (i := 3) rfl (by kernel_rfl) (by kernel_rfl) (by kernel_rfl) (fun _ _ _ h => h) (yields_tail (by kernel_rfl) _ _ rfl rfl g o L c (by kernel_rfl) eLx hcL hc1) hS6 ?_
      refine wpAnyH_take (i := 4) rfl (by kernel_rfl) (by kernel_rfl) (by kernel_rfl) (fun _ _ _ h => h) (yields_conv (by kernel_rfl) hu_sl hu_b hu_str _ rfl g (o + 1) (c - 1) (L - 1) t (by kernel_rfl) HT.out (fun w' hw' _ => hw'.2.1.tail)) hS6 ?_
      refine wpAnyH_all (rs := [5]) (by kernel_rfl) (by decide) ?_
      intro i5 hi5
      obtain rfl : i5 = 5 := by simpa using hi5
      refine wpOp_enter rfl (by kernel_rfl) _ #[vk, .agg (ch z m), .string (bs t)] (.tuple #[.agg (ch z2 m2), q]) (fun w' => Below w6.heap.size w6 w') (by kernel_rfl) (HX.out w6 hM6) ?_
      intro w7 hL7
      have hS7 : (fun w' => ChB w' N 27 z m ∧ Rd w' g o (6 :: t) ∧ Row w' (N + 1) 27 17 ∧ Below N w w') w7 := ⟨hC6.below hL7 (by omega), hr6.below hL7 (by omega), hR6.below hL7 (by omega), below_more hM6 hL7 (by omega)⟩
      refine ⟨hS7, ?_⟩
      refine wpAnyH_take (i := 6) rfl (by kernel_rfl) (by kernel_rfl) (by kernel_rfl) (fun _ _ _ h => h) (yields_val (by kernel_rfl) (.agg (ch z2 m2)) (fun w => by kernel_rfl)) hS7 ?_
      refine wpAnyH_take (i := 7) rfl (by kernel_rfl) (by kernel_rfl) (by kernel_rfl) (fun _ _ _ h => h) (yields_val (by kernel_rfl) (q) (fun w => by kernel_rfl)) hS7 ?_
      refine wpAnyH_all (rs := [8]) (by kernel_rfl) (by decide) ?_
      intro i8 hi8
      obtain rfl : i8 = 8 := by simpa using hi8
      refine wpOp_store_ch rfl (by kernel_rfl) 27 _ _ rfl (N + 1) 27 z2 m2 (by kernel_rfl) (by kernel_rfl) hS7.2.2.1 HM2.out (by kernel_rfl) ?_
      intro w8 hC8 hG8 hz8
      have h7s := hL7.size
      have hM8 : Below N w w8 := below_new hS7.2.2.2 (by omega) hG8 (by omega)
      have hS8 : (fun w' => ChB w' N 27 z m ∧ Rd w' g o (6 :: t) ∧ Row w' (N + 1) 27 17 ∧ Below N w w') w8 := ⟨hS7.1.old hG8 (by simp), hS7.2.1.old hG8 (by simp; omega), hC8.row HM2.out, hM8⟩
      refine ⟨hS8, ?_⟩
      refine wpAnyH_take (i := 9) rfl (by kernel_rfl) (by kernel_rfl) (by kernel_rfl) (fun _ _ _ h => h) (yields_val (by kernel_rfl) (q) (fun w => by kernel_rfl)) hS8 ?_
      refine wpAnyH_done (by kernel_rfl) ?_ _
      simp only [Act.put, List.getElem_toArray, List.getElem_cons_succ, List.getElem_cons_zero, List.setIfInBounds_toArray, List.set_cons_succ, List.set_cons_zero]
      go_wp2
      refine bodyPost_ret (results_ch rfl _ _ (N + 1) 27 _ m2 rfl hC8 HM2.out) rfl ?_
      exact ⟨rfl, hM8⟩
  exact run _ rfl
end Go.Proofs.Ytpfmhohldfnhmaa
set_option linter.unusedVariables false
set_option linter.unusedSimpArgs false
namespace Lk
open Go Go.RowKit
theorem or4 (b1 b2 b3 b4 : UInt8) : bits BinOp.or IntKind.i64 (bits BinOp.or IntKind.i64 (bits BinOp.or IntKind.i64 (wrap64 (wrap64 (bv b1) * 16777216)) (wrap64 (wrap64 (bv b2) * 65536))) (wrap64 (wrap64 (bv b3) * 256))) (wrap64 (bv b4)) = bv b1 * 16777216 + bv b2 * 65536 + bv b3 * 256 + bv b4 := by
  have hw : ∀ x : Int, 0 ≤ x → x < 4611686018427387904 → wrap64 x = x := by
    intro x h1 h2
    simp only [wrap64]
    omega
  have l1 := b1.toNat_lt
  have l2 := b2.toNat_lt
  have l3 := b3.toNat_lt
  have l4 := b4.toNat_lt
  unfold bv
  rw [hw b1.toNat (by omega) (by omega), hw b2.toNat (by omega) (by omega), hw b3.toNat (by omega) (by omega), hw b4.toNat (by omega) (by omega)]
  rw [hw _ (by omega) (by omega), hw _ (by omega) (by omega), hw _ (by omega) (by omega)]
  rw [show (b1.toNat : Int) * 16777216 = ((2 ^ 16 * (b1.toNat * 256) : Nat) : Int) by omega, show (b2.toNat : Int) * 65536 = ((2 ^ 8 * (b2.toNat * 256) : Nat) : Int) by omega, show (b3.toNat : Int) * 256 = ((b3.toNat * 256 : Nat) : Int) by omega]
  have e1 : 2 ^ 16 * (b1.toNat * 256) ||| 2 ^ 8 * (b2.toNat * 256) = 2 ^ 16 * (b1.toNat * 256 + b2.toNat) := by
    rw [show 2 ^ 16 * (b1.toNat * 256) = 2 ^ 24 * b1.toNat by omega, ← Nat.two_pow_add_eq_or_of_lt (i := 24) (by omega)]; omega
  have e2 : 2 ^ 16 * (b1.toNat * 256 + b2.toNat) ||| b3.toNat * 256 = 2 ^ 8 * ((b1.toNat * 256 + b2.toNat) * 256 + b3.toNat) := by
    rw [← Nat.two_pow_add_eq_or_of_lt (i := 16) (by omega)]; omega
  have e3 : 2 ^ 8 * ((b1.toNat * 256 + b2.toNat) * 256 + b3.toNat) ||| b4.toNat = 2 ^ 8 * ((b1.toNat * 256 + b2.toNat) * 256 + b3.toNat) + b4.toNat := by
    rw [← Nat.two_pow_add_eq_or_of_lt (i := 8) (by omega)]
  rw [bits_or_i64 _ _ (by omega) (by omega), e1, bits_or_i64 _ _ (by omega) (by omega), e2, bits_or_i64 _ _ (by omega) (by omega), e3]
  omega
section
variable {P : Program} {ops : Array Oper} {rest : List Oper} {o : Oper} {a : Act} {w : World} {Q : Exit → Act → World → Prop}
/-- an operation told with its value -/
theorem run_o (hgd : o.guard = none) (t : TypeId) (fs : Array (Nat × Operand)) (ho : o.op = .build t fs) (v : Value) (h : (execOp a.eval o).run P w = .ok (.value v) w) (hk : wpList P ops Q rest (a.put o.dst v) w) : wpList P ops Q (o :: rest) a w :=
  wpList_plain hgd fun K hK => by
    unfold Oper.wp
    rw [h]
    exact hK _ _ hk
end
end Lk
namespace Go.Proofs.Ytpfmhohldfnhmaa
open Go.RowKit Lk
set_option maxHeartbeats 1600000 in
set_option maxRecDepth 100000 in
theorem Apply_save (vk ve : Value) (z : Int) (m m2 : List UInt8) (b1 b2 b3 b4 : UInt8) (w : World) (he : SlB w ve (5 :: b1 :: b2 :: b3 :: b4 :: m2)) (hm : m.length = 16) (hm2 : m2.length = 16) :
    Calls Try.prog 7 #[vk, .agg (ch z m), ve] w fun e w' => e = .returned (.tuple #[.agg (ch (bv b1 * 16777216 + bv b2 * 65536 + bv b3 * 256 + bv b4) m2), .nilIface]) ∧ Below w.heap.size w w' := by
  obtain ⟨N, hN⟩ : ∃ N, w.heap.size = N := ⟨_, rfl⟩
  have HN := Lib.hid hN
  have HM := Lib.hid hm
  have HM2 := Lib.hid hm2
  have hL : (5 :: b1 :: b2 :: b3 :: b4 :: m2).length = 21 := by simp [hm2]
  obtain ⟨A, c, rfl, hcL⟩ := he.formc hL
  obtain ⟨g, o, rfl, hrd⟩ : ∃ g o, A = some ⟨g, o, none⟩ ∧ Rd w g o (5 :: b1 :: b2 :: b3 :: b4 :: m2) := by
    obtain ⟨A', c', e1, h1, h2, h3, h4⟩ := he
    injection e1 with e1 e2 e3
    subst e1 e3
    exact h4 (by omega)
  have hgN : g < N := by rw [← hN]; exact block_of_cell (hrd 0 (by omega))
  have HR0 := Lib.hid (fun (w' : World) (hw' : Below N w w') => (show w'.cell? ⟨g, o, none⟩ = some (.int .u8 5) from (hrd.below hw' hgN).cell 0 (by omega)))
  have HR1 := Lib.hid (fun (w' : World) (hw' : Below N w w') => (show w'.cell? ⟨g, o + 1, none⟩ = some (.int .u8 (bv b1)) from (hrd.below hw' hgN).cell 1 (by omega)))
  have HR2 := Lib.hid (fun (w' : World) (hw' : Below N w w') => (show w'.cell? ⟨g, o + 2, none⟩ = some (.int .u8 (bv b2)) from (hrd.below hw' hgN).cell 2 (by omega)))
  have HR3 := Lib.hid (fun (w' : World) (hw' : Below N w w') => (show w'.cell? ⟨g, o + 3, none⟩ = some (.int .u8 (bv b3)) from (hrd.below hw' hgN).cell 3 (by omega)))
  have HR4 := Lib.hid (fun (w' : World) (hw' : Below N w w') => (show w'.cell? ⟨g, o + 4, none⟩ = some (.int .u8 (bv b4)) from (hrd.below hw' hgN).cell 4 (by omega)))
  have HRR := Lib.hid (fun (w' : World) (hw' : Below N w w') => (hrd.below hw' hgN).tail.tail.tail.tail.tail)
  clear he hm hL hrd hm2
  go_enter Try.func7, Try.ntmps7
  go_wp2_with (first
    | ((with_reducible show wpList _ _ _ _ _ w); refine box_ch (w := w) rfl 27 _ rfl z m (by rfl) ?_; intro w1 hC1 hG1 hz1; have hM1 : Below N w w1 := (below_none (Below.refl _ _) (by omega) hG1); rw [hN] at hC1 hz1)
    | ((with_reducible show wpList _ _ _ _ _ w1); refine alloc_row (w := w1) rfl 27 rfl (.agg (ch 0 (List.replicate 16 0))) 17 (fun _ => by kernel_rfl) (by kernel_rfl) ?_; intro w2 hR2 _ hG2 hz2; have hC2 := hC1.old hG2 (by simp); have hM2 : Below N w w2 := (below_none hM1 (by omega) hG2); have c0 := (HR0.out w2 hM2); have c1 := (HR1.out w2 hM2); have c2 := (HR2.out w2 hM2); have c3 := (HR3.out w2 hM2); have c4 := (HR4.out w2 hM2); rw [hz1] at hR2 ⊢))
  go_quiet (fail)
  rw [or4]
  obtain ⟨w3, ew3⟩ : ∃ x, w2.drewN nq = x := ⟨_, rfl⟩
  have hR3 : Row w3 (N + 1) 27 17 := by rw [← ew3]; exact hR2
  have hM3 : Below N w w3 := by rw [← ew3]; exact ⟨hM2.os, hM2.tape, hM2.output, hM2.size, hM2.block⟩
  have hz3 : N + 2 ≤ w3.heap.size := by rw [← ew3]; show N + 2 ≤ w2.heap.size; omega
  rw [ew3]
  obtain ⟨nn, enn⟩ : ∃ x : Int, bv b1 * 16777216 + bv b2 * 65536 + bv b3 * 256 + bv b4 = x := ⟨_, rfl⟩
  rw [enn]
  obtain ⟨a0, a1, a2, a3, a4, a5, a6, a7, a8, a9, a10, a11, a12, a13, a14, a15, em⟩ := list16 m2 HM2.out
  have hc5 : ¬ c = 5 := by omega
  clear ew3 c0 c1 c2 c3 c4 hC2 hR2 hM2 hG2 hz2 hC1 hG1 hz1 hM1
  go_wp2_with (first
    | (refine to_array rfl 25 _ rfl (some ⟨g, o + 5, none⟩) 16 16 (c - 5) 5 (by rfl) (Nat.le_refl _) (by kernel_rfl) ?_)
    | (refine load_rd rfl 25 _ rfl g _ 16 5 m2 (by rfl) (HRR.out w3 hM3) HM2.out (by kernel_rfl) (by kernel_rfl) ?_)
    | (refine run_o rfl _ _ rfl (.agg (ch nn m2)) (by subst em; kernel_rfl) ?_)
    | (refine store_ch rfl 27 _ _ rfl (N + 1) 27 nn m2 (by rfl) (by rfl) hR3 HM2.out (by kernel_rfl) ?_; intro w4 hC4 hG4 hz4))
  refine bodyPost_ret (results_ch rfl _ _ (N + 1) 27 _ m2 rfl hC4 HM2.out) rfl ?_
  have hM4 : Below N w w4 := below_new hM3 (by omega) hG4 (by omega)
  subst enn
  refine ⟨rfl, ?_⟩
  first | exact hM4 | (rw [HN.out]; exact hM4)
end Go.Proofs.Ytpfmhohldfnhmaa
set_option linter.unusedVariables false
set_option linter.unusedSimpArgs false
namespace Go.Proofs.Ytpfmhohldfnhmaa
open Go.RowKit Lk
set_option maxHeartbeats 800000 in
set_option maxRecDepth 100000 in
theorem Right_yes (z : Int) (m : List UInt8) (w : World) (h0 : 0 ≤ z) (h1 : z ≤ 4294967295) :
    Calls Try.prog 12 #[.agg (ch z m)] w fun e w' => e = .returned (.bool true) ∧ Below w.heap.size w w' := by
  obtain ⟨N, hN⟩ : ∃ N, w.heap.size = N := ⟨_, rfl⟩
  have HN := Lib.hid hN
  go_enter Try.func12, Try.ntmps12
  go_wp2_with (refine box_ch rfl 27 _ rfl z m (by rfl) ?_; intro w1 hC1 hG1 hz1; have hM1 : Below N w w1 := (below_none (Below.refl _ _) (by omega) hG1); rw [hN] at hC1 hz1; have hc1 := hC1.count)
  go_ret
  exact ⟨rfl, by first | exact hM1 | (rw [HN.out]; exact hM1)⟩
set_option maxHeartbeats 800000 in
set_option maxRecDepth 100000 in
theorem Right_low (z : Int) (m : List UInt8) (w : World) (h0 : ¬ 0 ≤ z) :
    Calls Try.prog 12 #[.agg (ch z m)] w fun e w' => e = .returned (.bool false) ∧ Below w.heap.size w w' := by
  obtain ⟨N, hN⟩ : ∃ N, w.heap.size = N := ⟨_, rfl⟩
  have HN := Lib.hid hN
  go_enter Try.func12, Try.ntmps12
  go_wp2_with (refine box_ch rfl 27 _ rfl z m (by rfl) ?_; intro w1 hC1 hG1 hz1; have hM1 : Below N w w1 := (below_none (Below.refl _ _) (by omega) hG1); rw [hN] at hC1 hz1; have hc1 := hC1.count)
  go_ret
  exact ⟨rfl, by first | exact hM1 | (rw [HN.out]; exact hM1)⟩
set_option maxHeartbeats 800000 in
set_option maxRecDepth 100000 in
theorem Right_high (z : Int) (m : List UInt8) (w : World) (h0 : 0 ≤ z) (h1 : ¬ z ≤ 4294967295) :
    Calls Try.prog 12 #[.agg (ch z m)] w fun e w' => e = .returned (.bool false) ∧ Below w.heap.size w w' := by
  obtain ⟨N, hN⟩ : ∃ N, w.heap.size = N := ⟨_, rfl⟩
  have HN := Lib.hid hN
  go_enter Try.func12, Try.ntmps12
  go_wp2_with (refine box_ch rfl 27 _ rfl z m (by rfl) ?_; intro w1 hC1 hG1 hz1; have hM1 : Below N w w1 := (below_none (Below.refl _ _) (by omega) hG1); rw [hN] at hC1 hz1; have hc1 := hC1.count)
  go_ret
  exact ⟨rfl, by first | exact hM1 | (rw [HN.out]; exact hM1)⟩
end Go.Proofs.Ytpfmhohldfnhmaa
set_option linter.unusedVariables false
set_option linter.unusedSimpArgs false
namespace Lk
open Go Go.RowKit
/-- the k-th string -/
def gs (l : List ByteArray) (k : Nat) : ByteArray := l.getD k ByteArray.empty
/-- the value is a slice that reads as these strings -/
def SlS (w : World) (v : Value) (l : List ByteArray) : Prop :=
  ∃ A c, v = .slice A l.length c ∧ l.length ≤ c ∧ (0 < l.length → ∃ g o, A = some ⟨g, o, none⟩ ∧ ∀ k, k < l.length → w.cell? ⟨g, o + k, none⟩ = some (.string (gs l k)))
theorem SlS.below {w w1 : World} {v : Value} {l : List ByteArray} (h : SlS w v l) (hG : Below w.heap.size w w1) : SlS w1 v l := by
  obtain ⟨A, c, rfl, h1, h2⟩ := h
  refine ⟨A, c, rfl, h1, fun hc => ?_⟩
  obtain ⟨g, o, rfl, hr⟩ := h2 hc
  refine ⟨g, o, rfl, fun k hk => ?_⟩
  have := hr k hk
  rw [hG.cell (block_of_cell this)]
  exact this
theorem slS_nil (w : World) : SlS w (.slice none 0 0) [] := ⟨none, 0, rfl, Nat.le_refl _, fun h => by simp at h⟩
/-- whether the text is a note -/
def okNote (s : ByteArray) : Bool := decide (1 ≤ s.size) && decide (s.size ≤ 60)
/-- the mark behind a note -/
def pmark (key m : List UInt8) (n : Nat) (s : ByteArray) : List UInt8 := pcmac 1 key (m ++ pnum (n + 1) ++ sb s)
theorem pmark_len (key m : List UInt8) (n : Nat) (s : ByteArray) : (pmark key m n s).length = 16 := pcmac_len 1 key _ (.inl rfl)
/-- the mark behind notes from the count n on -/
def pmarks (key : List UInt8) : List ByteArray → Nat → List UInt8 → List UInt8
  | [], _, m => m
  | s :: ss, n, m => pmarks key ss (n + 1) (pmark key m n s)
theorem pmarks_snoc (key : List UInt8) (s : ByteArray) : ∀ (ss : List ByteArray) (n : Nat) (m : List UInt8), pmarks key (ss ++ [s]) n m = pmark key (pmarks key ss n m) (n + ss.length) s
  | [], _, _ => rfl
  | x :: ss, n, m => by
    rw [List.cons_append, pmarks, pmarks_snoc key s ss (n + 1), pmarks, List.length_cons]
    congr 1
    omega
theorem pmarks_take (key m : List UInt8) (ss : List ByteArray) (k : Nat) (h : k < ss.length) : pmarks key (ss.take (k + 1)) 0 m = pmark key (pmarks key (ss.take k) 0 m) k (gs ss k) := by
  have e : gs ss k = ss[k] := by simp [gs, h]
  rw [e, List.take_succ_eq_append_getElem h, pmarks_snoc, List.length_take, Nat.min_eq_left (Nat.le_of_lt h), Nat.zero_add]
theorem pmarks_len (key : List UInt8) : ∀ (ss : List ByteArray) (n : Nat) (m : List UInt8), m.length = 16 → (pmarks key ss n m).length = 16
  | [], _, _, h => h
  | s :: ss, n, m, _ => pmarks_len key ss (n + 1) _ (pmark_len ..)
end Lk
set_option linter.unusedVariables false
set_option linter.unusedSimpArgs false
namespace Lk
open Go Go.RowKit
theorem run_eqIn_bs {P : Program} (w : World) (d : Nat) {t e : TypeId} {n : Nat} (a b : List UInt8) (hu : P.underlying t = some (.array n e)) (he : P.underlying e = some (.int .u8)) (hc : P.cellsOf e = 1) (hi : (P.info? e).isSome = true) (ha : a.length = n) (hb : b.length = n) :
    (Op.equalIn (d + 2) t (.agg (Bs a)) (.agg (Bs b))).run P w = .ok (a == b) w := by
  obtain ⟨i, hi⟩ := Option.isSome_iff_exists.1 hi
  have h := run_equalIn_array (P := P) w (d + 1) (Bs a) (Bs b) hu hi
  rw [run_eqItems_bs w d he hc a b (List.range n) (fun j hj => by have := List.mem_range.1 hj; omega)] at h
  have e : ((List.range n).all fun i => g8 a i == g8 b i) = (a == b) := by
    rw [Bool.eq_iff_iff, List.all_eq_true, beq_iff_eq]
    constructor
    · intro h
      exact same_ext (by omega) (fun i hi => by simpa using h i (List.mem_range.2 (by omega)))
    · intro h i hi; rw [h]; simp
  rw [e] at h
  exact h
theorem eqFields_st {P : Program} (w : World) (d : Nat) (X Y : Array Value) (f : Field) (fs : List Field) (x y : Value) (b : Bool) (hn : f.name ≠ "_") (hx : (part f.type X f.offset).run P w = .ok x w) (hy : (part f.type Y f.offset).run P w = .ok y w) (hq : (Op.equalIn d f.type x y).run P w = .ok b w) :
    (Op.eqFields d X Y (f :: fs)).run P w = if b then (Op.eqFields d X Y fs).run P w else .ok false w := by
  simp only [Op.eqFields, hn, ne_eq, not_false_eq_true, if_true, Sem.run_bind, hx, hy, hq, Result.andThen_ok]
  cases b <;> simp [Sem.run_pure]
theorem eqFields_none {P : Program} (w : World) (d : Nat) (X Y : Array Value) : (Op.eqFields d X Y []).run P w = .ok true w := by simp [Op.eqFields, Sem.run_pure]
theorem part_mid {P : Program} (w : World) {ty e : TypeId} {n m : Nat} (hu : P.underlying ty = some (.array n e)) (hs : (sizeOf ty : Sem Nat).run P w = .ok m w) (A X B : List Value) (o : Nat) (ho : o = A.length) (hX : X.length = m) :
    (part ty ((A ++ (X ++ B)).toArray) o).run P w = .ok (.agg X.toArray) w := by
  subst ho
  simp [part, isAgg, run_underlying hu, hs]
  simp [hX]
theorem list2 {α β : Type} (L : List α) (g : α → β) {x y : β} (h : L.map g = [x, y]) : ∃ a b, L = [a, b] ∧ g a = x ∧ g b = y := by
  obtain ⟨a, l1, rfl, ha, h⟩ := List.map_eq_cons_iff.1 h
  obtain ⟨b, l2, rfl, hb, h⟩ := List.map_eq_cons_iff.1 h
  rw [List.map_eq_nil_iff] at h
  subst h
  exact ⟨a, b, rfl, ha, hb⟩
section
variable {P : Program} {ops : Array Oper} {rest : List Oper} {o : Oper} {a : Act} {w : World} {Q : Exit → Act → World → Prop}
theorem op_neqg (hw : Region.wanted o (yielded ops a.tmps) = true) (t r : TypeId) (x y : Operand) (ho : o.op = .binOp .neq t x y r) (xs ys : Array Value) (hx : a.eval x = .agg xs) (hy : a.eval y = .agg ys) (hm : P.eqGuardType P.depth t = false) (b : Bool)
    (hr : ∀ w : World, (binOp .neq t (.agg xs) (.agg ys)).run P w = .ok (.bool b) w) (h : wpList P ops Q rest (a.put o.dst (.bool b)) w) : wpList P ops Q (o :: rest) a w :=
  wpList_step fun K hK => by
    simp only [hw, if_true]
    unfold Oper.wp execOp
    simp only [ho, hx, hy, Sem.run_bind, run_eqGuard_agg w .neq t x y xs ys hm, hr, Result.andThen_ok]
    exact hK _ _ h
end
theorem ch_list (c : Int) (m : List UInt8) : ch c m = ([Value.int .i64 c] ++ (Bl m ++ [])).toArray := by simp [ch, Bs, Bl]
end Lk
namespace Go.Proofs.Ytpfmhohldfnhmaa
open Go Go.RowKit Lk
theorem cht_f : (Try.prog.fieldsOf cht).toList.map (fun f => (f.type, f.offset, f.name != "_")) = [(3, 0, true), (25, 1, true)] := by kernel_rfl
theorem cht_struct : Try.prog.underlying cht = some (.struct (Try.prog.fieldsOf cht)) := by kernel_rfl
theorem cht_held : Try.prog.stoodInHeld cht = false := by kernel_rfl
set_option maxRecDepth 100000 in
theorem eqIn_ch (w : World) (d : Nat) (c c' : Int) (m m' : List UInt8) (hm : m.length = 16) (hm' : m'.length = 16) :
    (Op.equalIn (d + 6) cht (.agg (ch c m)) (.agg (ch c' m'))).run Try.prog w = .ok (c == c' && m == m') w := by
  rw [run_equalIn_struct w (d + 5) cht _ _ cht_struct cht_held]
  obtain ⟨f1, f2, hL, g1, g2⟩ := list2 _ _ cht_f
  rw [hL]
  clear hL
  simp only [Prod.mk.injEq, bne_iff_ne] at g1 g2
  obtain ⟨a1, b1, c1⟩ := g1
  obtain ⟨a2, b2, c2⟩ := g2
  have hi : Try.prog.underlying 3 = some (.int .i64) := by kernel_rfl
  have hp : Try.prog.plainKey 3 = true := by unfold Program.plainKey; rw [hi]
  have c0 : ∀ (x : Int) (l : List UInt8), (ch x l)[0]? = some (.int .i64 x) := fun x l => by unfold ch; rw [Array.getElem?_append_left (by simp)]; rfl
  have q1 : ∀ (x : Int) (l : List UInt8), (part f1.type (ch x l) f1.offset).run Try.prog w = .ok (.int .i64 x) w := by
    intro x l
    rw [a1, b1]
    exact run_part_plain (P := Try.prog) w hp (c0 _ _)
  have q2 : ∀ (x : Int) (l : List UInt8), l.length = 16 → (part f2.type (ch x l) f2.offset).run Try.prog w = .ok (.agg (Bs l)) w := by
    intro x l hl
    rw [a2, b2, ch_list]
    exact part_mid (P := Try.prog) w (ty := 25) (e := 5) (n := 16) (m := 16) (by kernel_rfl) (by kernel_rfl) [.int .i64 x] (Bl l) [] 1 rfl (by rw [Bl_len, hl])
  have r1 : (Op.equalIn (d + 5) f1.type (.int .i64 c) (.int .i64 c')).run Try.prog w = .ok (c == c') w := by
    rw [a1]; exact run_equalIn_int (P := Try.prog) w (d + 4) 3 .i64 .i64 c c' hi
  have r2 : (Op.equalIn (d + 5) f2.type (.agg (Bs m)) (.agg (Bs m'))).run Try.prog w = .ok (m == m') w := by
    rw [a2]; exact run_eqIn_bs (P := Try.prog) w (d + 3) (t := 25) (e := 5) (n := 16) m m' (by kernel_rfl) (by kernel_rfl) (by kernel_rfl) (by kernel_rfl) hm hm'
  clear a1 b1 a2 b2
  rw [eqFields_st w _ _ _ f1 _ _ _ _ c1 (q1 c m) (q1 c' m') r1]
  cases c == c' with
  | false => rfl
  | true =>
    rw [if_pos rfl, eqFields_st w _ _ _ f2 _ _ _ _ c2 (q2 c m hm) (q2 c' m' hm') r2]
    cases m == m' with
    | false => rfl
    | true => rw [if_pos rfl, eqFields_none]; rfl
theorem run_eql_ch (w : World) (c c' : Int) (m m' : List UInt8) (hm : m.length = 16) (hm' : m'.length = 16) :
    (binOp .eql cht (.agg (ch c m)) (.agg (ch c' m'))).run Try.prog w = .ok (.bool (c == c' && m == m')) w := by
  have h : (Op.equalIn 10000 cht (.agg (ch c m)) (.agg (ch c' m'))).run Try.prog w = .ok (c == c' && m == m') w := eqIn_ch w 9994 c c' m m' hm hm'
  simp [binOp, Op.equal, Op.maxDepth, h]
theorem run_neq_ch (w : World) (c c' : Int) (m m' : List UInt8) (hm : m.length = 16) (hm' : m'.length = 16) :
    (binOp .neq cht (.agg (ch c m)) (.agg (ch c' m'))).run Try.prog w = .ok (.bool (!(c == c' && m == m'))) w := by
  have h : (Op.equalIn 10000 cht (.agg (ch c m)) (.agg (ch c' m'))).run Try.prog w = .ok (c == c' && m == m') w := eqIn_ch w 9994 c c' m m' hm hm'
  simp [binOp, Op.equal, Op.maxDepth, h]
end Go.Proofs.Ytpfmhohldfnhmaa
set_option linter.unusedVariables false
set_option linter.unusedSimpArgs false
namespace Go.Proofs.Ytpfmhohldfnhmaa
open Go.RowKit Lk
set_option maxHeartbeats 3200000 in
set_option maxRecDepth 100000 in
theorem Check_end (vk vs : Value) (key : List UInt8) (ss : List ByteArray) (z : Int) (mm : List UInt8) (b : Bool) (w : World) (hk : SlB w vk key) (hs : SlS w vs ss) (hsl : ss.length ≤ 1000) (hmm : mm.length = 16) (hn : ∀ k, k < ss.length → key.length = 16 ∧ okNote (gs ss k) = true) (hb : (((ss.length : Nat) : Int) == z && pmarks key ss 0 (List.replicate 16 0) == mm) = b) :
    Calls Try.prog 11 #[vk, vs, .agg (ch z mm)] w fun e w' => e = .returned (if b then .nilIface else .iface 49 (.int .i64 4)) ∧ Below w.heap.size w w' := by
  obtain ⟨N, hN⟩ : ∃ N, w.heap.size = N := ⟨_, rfl⟩
  have HN := Lib.hid hN
  have HK := Lib.hid (fun (w' : World) (hw' : Below N w w') => hk.below (by rw [hN]; exact hw'))
  have HNO := Lib.hid hn
  obtain ⟨L, hL⟩ : ∃ L, ss.length = L := ⟨_, rfl⟩
  have EL := Lib.hid hL
  have HMM := Lib.hid hmm
  obtain ⟨A, c, rfl, hLc, hr⟩ := hs
  have HLC := Lib.hid hLc
  have HR := Lib.hid hr
  obtain ⟨M, eM⟩ : ∃ M, pmarks key ss 0 (List.replicate 16 0) = M := ⟨_, rfl⟩
  have EM := Lib.hid eM
  have HM := Lib.hid (show M.length = 16 by rw [← eM]; exact pmarks_len key ss 0 _ (by simp))
  rw [eM, hL] at hb
  have HB := Lib.hid hb
  rw [hL]
  rw [hL] at HR HLC hsl HNO
  clear eM hb
  clear hk hn hL hLc hr hmm
  go_enter Try.func11, Try.ntmps11
  go_wp2_with (first
    | ((with_reducible show wpList _ _ _ _ _ w); refine box_ch (w := w) rfl 27 _ rfl z mm (by rfl) ?_; intro w1 hC1 hG1 hz1; have hM1 : Below N w w1 := (below_none (Below.refl _ _) (by omega) hG1); rw [hN] at hC1 hz1)
    | ((with_reducible show wpList _ _ _ _ _ w1); refine alloc_row (w := w1) rfl 27 rfl (.agg (ch 0 (List.replicate 16 0))) 17 (fun _ => by kernel_rfl) (by kernel_rfl) ?_; intro w2 _ hR2 hG2 hz2; have hC2 := hC1.old hG2 (by simp); have hM2 : Below N w w2 := (below_none hM1 (by omega) hG2); rw [hz1] at hR2 ⊢))
  have hz2' : w2.heap.size = N + 2 := by omega
  have hK2 : ChB w2 (N + 1) 27 ((0 : Nat) : Int) (pmarks key (ss.take 0) 0 (List.replicate 16 0)) := hR2
  have hN2 : N + 2 ≤ w2.heap.size := by omega
  clear hC1 hG1 hz1 hM1 hR2 hG2 hz2 hz2'
  go_loopw [14] (fun i wr => ∃ k : Nat, k ≤ L ∧ i = .int .i64 k ∧ ChB wr (N + 1) 27 (k : Int) (pmarks key (ss.take k) 0 (List.replicate 16 0)) ∧ ChB wr N 27 z mm ∧ Below N w wr ∧ N + 2 ≤ wr.heap.size) (fun i _ => L - (intOf i).toNat)
  case atStart => exact ⟨0, by omega, rfl, hK2, hC2, hM2, hN2⟩
  case round =>
    clear hK2 hC2 hM2 hN2
    obtain ⟨k, hk, rfl, hK, hC, hL, hsz⟩ := hrel
    by_cases hlt : k < L
    · obtain ⟨g, o, rfl, hrd⟩ := HR.out (by omega)
      have hgN : g < N := by rw [← hN]; exact block_of_cell (hrd 0 (by omega))
      have c1 : wr.cell? ⟨g, o + k, none⟩ = some (.string (gs ss k)) := cell_below (hrd k (by omega)) hL hgN
      have HLT := Lib.hid hlt
      have hno := (HNO.out k hlt).2
      have hkl := (HNO.out k hlt).1
      unfold okNote at hno
      simp only [Bool.and_eq_true, decide_eq_true_eq] at hno
      obtain ⟨mk, emk⟩ : ∃ x, pmarks key (ss.take k) 0 (List.replicate 16 0) = x := ⟨_, rfl⟩
      have hmk : mk.length = 16 := by rw [← emk]; exact pmarks_len key _ 0 _ (by simp)
      have hx := Next_yes vk key k mk (gs ss k) wr (HK.out wr hL) hkl (by omega) hmk hno.1 hno.2
      obtain ⟨mn, emn⟩ : ∃ x, pcmac 1 key (mk ++ pnum (k + 1) ++ sb (gs ss k)) = x := ⟨_, rfl⟩
      have hmn : mn.length = 16 := by rw [← emn]; exact pcmac_len 1 key _ (.inl rfl)
      obtain ⟨kk, ekk⟩ : ∃ x : Int, ((k + 1 : Nat) : Int) = x := ⟨_, rfl⟩
      rw [emn, ekk] at hx
      rw [emk] at hK
      have HX := Lib.hid hx
      have HKK := Lib.hid hK
      have HCC := Lib.hid hC
      have HLL := Lib.hid hL
      have HMK := Lib.hid hmk
      have HMN := Lib.hid hmn
      have EKK := Lib.hid ekk
      have EMK := Lib.hid emk
      have EMN := Lib.hid emn
      have HSZ := Lib.hid hsz
      have hkL : k < L := by omega
      clear hno hkl hK hC hL hrd hx hmk hmn ekk emk emn hsz
      go_wp2_with (first
        | ((with_reducible show wpList _ _ _ _ _ wr); refine load_ch (w := wr) (by rfl) _ rfl (N + 1) 27 (k : Int) mk (by rfl) HKK.out HMK.out ?_)
        | (go_at_call 10; refine HX.out.mono ?_; rintro e w3 ⟨rfl, hL3⟩; have hz3 := hL3.size; have hK3 := HKK.out.below hL3 (by have := HSZ.out; omega); have hC3 := HCC.out.below hL3 (by have := HSZ.out; omega); have hM3 : Below N w w3 := (below_more HLL.out hL3 (by have := HSZ.out; omega)); have hN3 : N + 2 ≤ w3.heap.size := (by have := HSZ.out; omega))
        | ((with_reducible show wpList _ _ _ _ _ w3); refine alloc_row (w := w3) rfl 27 rfl (.agg (ch 0 (List.replicate 16 0))) 17 (fun _ => by kernel_rfl) (by kernel_rfl) ?_; intro w4 hR4 _ hG4 hz4; have hK4 := hK3.old hG4 (by simp); have hC4 := hC3.old hG4 (by simp); have hM4 : Below N w w4 := (below_none hM3 (by omega) hG4); obtain ⟨g4, eg4⟩ : ∃ x, w3.heap.size = x := ⟨_, rfl⟩; rw [eg4] at hR4 hz4 hN3 ⊢)
        | ((with_reducible show wpList _ _ _ _ _ w4); refine store_ch (w := w4) rfl 27 _ _ rfl g4 27 kk mn (by rfl) (by rfl) hR4 HMN.out (by kernel_rfl) ?_; intro w5 hC5 hG5 hz5; have hK5 := hK4.old hG5 (by simp; omega); have hD5 := hC4.old hG5 (by simp; omega); have hM5 : Below N w w5 := (below_new hM4 (by omega) hG5 (by omega)))
        | ((with_reducible show wpList _ _ _ _ _ w5); refine load_ch (w := w5) (by rfl) _ rfl g4 27 kk mn (by rfl) hC5 HMN.out ?_)
        | ((with_reducible show wpList _ _ _ _ _ w5); refine store_ch (w := w5) rfl 27 _ _ rfl (N + 1) 27 kk mn (by rfl) (by rfl) (hK5.row HMK.out) HMN.out (by kernel_rfl) ?_; intro w6 hC6 hG6 hz6; have hD6 := hD5.old hG6 (by simp); have hM6 : Below N w w6 := (below_new hM5 (by omega) hG6 (by omega))))
      refine ⟨⟨k + 1, HLT.out, by go_num, ?_, hD6, hM6, by have h1 := hz4; omega⟩, by have : k < L := HLT.out; simp [intOf]; omega⟩
      rw [EKK.out, pmarks_take key _ ss k (by rw [EL.out]; omega), EMK.out]
      unfold pmark
      rw [EMN.out]
      exact hC6
    · obtain rfl : k = L := by omega
      rw [show ss.take k = ss from List.take_of_length_le (by rw [EL.out]; omega), EM.out] at hK
      have HKK := Lib.hid hK
      have HCC := Lib.hid hC
      have HLL := Lib.hid hL
      have hq : ∀ w : World, (binOp .neq cht (.agg (ch (k : Int) M)) (.agg (ch z mm))).run Try.prog w = .ok (.bool (!b)) w := fun w => (run_neq_ch w _ _ _ _ HM.out HMM.out).trans (by rw [HB.out])
      have HQ := Lib.hid hq
      clear hK hC hL hq
      go_wp2_with (first
        | ((with_reducible show wpList _ _ _ _ _ wr); refine load_ch (w := wr) (by rfl) _ rfl (N + 1) 27 (k : Int) M (by rfl) HKK.out HM.out ?_)
        | ((with_reducible show wpList _ _ _ _ _ wr); refine load_ch (w := wr) (by rfl) _ rfl N 27 z mm (by rfl) HCC.out HMM.out ?_)
        | ((with_reducible show wpList _ _ _ _ _ wr); refine op_neqg (w := wr) (by rfl) cht _ _ _ rfl (ch (k : Int) M) (ch z mm) (by rfl) (by rfl) (by kernel_rfl) (!b) HQ.out ?_; clear HQ HB; cases b))
      all_goals
        go_ret
        exact ⟨rfl, by first | exact HLL.out | (rw [HN.out]; exact HLL.out)⟩
end Go.Proofs.Ytpfmhohldfnhmaa
set_option linter.unusedVariables false
set_option linter.unusedSimpArgs false
namespace Go.Proofs.Ytpfmhohldfnhmaa
open Go.RowKit Lk
set_option maxHeartbeats 3200000 in
set_option maxRecDepth 100000 in
theorem Check_bad (vk vs : Value) (key : List UInt8) (ss : List ByteArray) (z : Int) (mm : List UInt8) (B : Nat) (w : World) (hk : SlB w vk key) (hs : SlS w vs ss) (hsl : ss.length ≤ 1000) (hmm : mm.length = 16) (hn : ∀ k, k < B → key.length = 16 ∧ okNote (gs ss k) = true) (hB : B < ss.length) (hbs : (gs ss B).size ≤ 140737488351232) (hb : ¬ (key.length = 16 ∧ okNote (gs ss B) = true)) :
    Calls Try.prog 11 #[vk, vs, .agg (ch z mm)] w fun e w' => ∃ v, e = .returned v ∧ ErV w' [(B : Int)] 2 v ∧ Below w.heap.size w w' := by
  obtain ⟨N, hN⟩ : ∃ N, w.heap.size = N := ⟨_, rfl⟩
  have HN := Lib.hid hN
  have HK := Lib.hid (fun (w' : World) (hw' : Below N w w') => hk.below (by rw [hN]; exact hw'))
  have HNO := Lib.hid hn
  obtain ⟨L, hL⟩ : ∃ L, ss.length = L := ⟨_, rfl⟩
  have EL := Lib.hid hL
  have HMM := Lib.hid hmm
  obtain ⟨A, c, rfl, hLc, hr⟩ := hs
  have HLC := Lib.hid hLc
  have HR := Lib.hid hr
  have HB := Lib.hid hb
  have HBS := Lib.hid hbs
  rw [hL]
  rw [hL] at HR HLC hsl hB
  clear hb hbs
  clear hk hn hL hLc hr hmm
  go_enter Try.func11, Try.ntmps11
  go_wp2_with (first
    | ((with_reducible show wpList _ _ _ _ _ w); refine box_ch (w := w) rfl 27 _ rfl z mm (by rfl) ?_; intro w1 hC1 hG1 hz1; have hM1 : Below N w w1 := (below_none (Below.refl _ _) (by omega) hG1); rw [hN] at hC1 hz1)
    | ((with_reducible show wpList _ _ _ _ _ w1); refine alloc_row (w := w1) rfl 27 rfl (.agg (ch 0 (List.replicate 16 0))) 17 (fun _ => by kernel_rfl) (by kernel_rfl) ?_; intro w2 _ hR2 hG2 hz2; have hC2 := hC1.old hG2 (by simp); have hM2 : Below N w w2 := (below_none hM1 (by omega) hG2); rw [hz1] at hR2 ⊢))
  have hz2' : w2.heap.size = N + 2 := by omega
  have hK2 : ChB w2 (N + 1) 27 ((0 : Nat) : Int) (pmarks key (ss.take 0) 0 (List.replicate 16 0)) := hR2
  have hN2 : N + 2 ≤ w2.heap.size := by omega
  clear hC1 hG1 hz1 hM1 hR2 hG2 hz2 hz2'
  go_loopw [14] (fun i wr => ∃ k : Nat, k ≤ B ∧ i = .int .i64 k ∧ ChB wr (N + 1) 27 (k : Int) (pmarks key (ss.take k) 0 (List.replicate 16 0)) ∧ ChB wr N 27 z mm ∧ Below N w wr ∧ N + 2 ≤ wr.heap.size) (fun i _ => L - (intOf i).toNat)
  case atStart => exact ⟨0, by omega, rfl, hK2, hC2, hM2, hN2⟩
  case round =>
    clear hK2 hC2 hM2 hN2
    obtain ⟨k, hk, rfl, hK, hC, hL, hsz⟩ := hrel
    by_cases hlt : k < B
    · obtain ⟨g, o, rfl, hrd⟩ := HR.out (by omega)
      have hgN : g < N := by rw [← hN]; exact block_of_cell (hrd 0 (by omega))
      have c1 : wr.cell? ⟨g, o + k, none⟩ = some (.string (gs ss k)) := cell_below (hrd k (by omega)) hL hgN
      have HLT := Lib.hid hlt
      have hno := (HNO.out k hlt).2
      have hkl := (HNO.out k hlt).1
      unfold okNote at hno
      simp only [Bool.and_eq_true, decide_eq_true_eq] at hno
      obtain ⟨mk, emk⟩ : ∃ x, pmarks key (ss.take k) 0 (List.replicate 16 0) = x := ⟨_, rfl⟩
      have hmk : mk.length = 16 := by rw [← emk]; exact pmarks_len key _ 0 _ (by simp)
      have hx := Next_yes vk key k mk (gs ss k) wr (HK.out wr hL) hkl (by omega) hmk hno.1 hno.2
      obtain ⟨mn, emn⟩ : ∃ x, pcmac 1 key (mk ++ pnum (k + 1) ++ sb (gs ss k)) = x := ⟨_, rfl⟩
      have hmn : mn.length = 16 := by rw [← emn]; exact pcmac_len 1 key _ (.inl rfl)
      obtain ⟨kk, ekk⟩ : ∃ x : Int, ((k + 1 : Nat) : Int) = x := ⟨_, rfl⟩
      rw [emn, ekk] at hx
      rw [emk] at hK
      have HX := Lib.hid hx
      have HKK := Lib.hid hK
      have HCC := Lib.hid hC
      have HLL := Lib.hid hL
      have HMK := Lib.hid hmk
      have HMN := Lib.hid hmn
      have EKK := Lib.hid ekk
      have EMK := Lib.hid emk
      have EMN := Lib.hid emn
      have HSZ := Lib.hid hsz
      have hkL : k < L := by omega
      clear hno hkl hK hC hL hrd hx hmk hmn ekk emk emn hsz
      go_wp2_with (first
        | ((with_reducible show wpList _ _ _ _ _ wr); refine load_ch (w := wr) (by rfl) _ rfl (N + 1) 27 (k : Int) mk (by rfl) HKK.out HMK.out ?_)
        | (go_at_call 10; refine HX.out.mono ?_; rintro e w3 ⟨rfl, hL3⟩; have hz3 := hL3.size; have hK3 := HKK.out.below hL3 (by have := HSZ.out; omega); have hC3 := HCC.out.below hL3 (by have := HSZ.out; omega); have hM3 : Below N w w3 := (below_more HLL.out hL3 (by have := HSZ.out; omega)); have hN3 : N + 2 ≤ w3.heap.size := (by have := HSZ.out; omega))
        | ((with_reducible show wpList _ _ _ _ _ w3); refine alloc_row (w := w3) rfl 27 rfl (.agg (ch 0 (List.replicate 16 0))) 17 (fun _ => by kernel_rfl) (by kernel_rfl) ?_; intro w4 hR4 _ hG4 hz4; have hK4 := hK3.old hG4 (by simp); have hC4 := hC3.old hG4 (by simp); have hM4 : Below N w w4 := (below_none hM3 (by omega) hG4); obtain ⟨g4, eg4⟩ : ∃ x, w3.heap.size = x := ⟨_, rfl⟩; rw [eg4] at hR4 hz4 hN3 ⊢)
        | ((with_reducible show wpList _ _ _ _ _ w4); refine store_ch (w := w4) rfl 27 _ _ rfl g4 27 kk mn (by rfl) (by rfl) hR4 HMN.out (by kernel_rfl) ?_; intro w5 hC5 hG5 hz5; have hK5 := hK4.old hG5 (by simp; omega); have hD5 := hC4.old hG5 (by simp; omega); have hM5 : Below N w w5 := (below_new hM4 (by omega) hG5 (by omega)))
        | ((with_reducible show wpList _ _ _ _ _ w5); refine load_ch (w := w5) (by rfl) _ rfl g4 27 kk mn (by rfl) hC5 HMN.out ?_)
        | ((with_reducible show wpList _ _ _ _ _ w5); refine store_ch (w := w5) rfl 27 _ _ rfl (N + 1) 27 kk mn (by rfl) (by rfl) (hK5.row HMK.out) HMN.out (by kernel_rfl) ?_; intro w6 hC6 hG6 hz6; have hD6 := hD5.old hG6 (by simp); have hM6 : Below N w w6 := (below_new hM5 (by omega) hG6 (by omega))))
      refine ⟨⟨k + 1, HLT.out, by go_num, ?_, hD6, hM6, by have h1 := hz4; omega⟩, by have : k < B := HLT.out; simp [intOf]; omega⟩
      rw [EKK.out, pmarks_take key _ ss k (by rw [EL.out]; omega), EMK.out]
      unfold pmark
      rw [EMN.out]
      exact hC6
    · obtain rfl : k = B := by omega
      obtain ⟨g, o, rfl, hrd⟩ := HR.out (by omega)
      have hgN : g < N := by rw [← hN]; exact block_of_cell (hrd 0 (by omega))
      have c1 : wr.cell? ⟨g, o + k, none⟩ = some (.string (gs ss k)) := cell_below (hrd k (by omega)) hL hgN
      obtain ⟨mk, emk⟩ : ∃ x, pmarks key (ss.take k) 0 (List.replicate 16 0) = x := ⟨_, rfl⟩
      have hmk : mk.length = 16 := by rw [← emk]; exact pmarks_len key _ 0 _ (by simp)
      have hx : Calls Try.prog 10 #[vk, .agg (ch (k : Int) mk), .string (gs ss k)] wr fun e w' => e = .returned (.tuple #[.agg (ch (k : Int) mk), .iface 49 (.int .i64 2)]) ∧ Below wr.heap.size wr w' := by
        by_cases hkl : key.length = 16
        · refine Next_note vk key _ mk (gs ss k) wr (HK.out wr hL) hkl hmk HBS.out ?_
          have hb := HB.out
          simp only [hkl, true_and, okNote, Bool.and_eq_true, decide_eq_true_eq] at hb
          omega
        · exact Next_key vk key _ mk (gs ss k) wr (HK.out wr hL) hkl hmk
      rw [emk] at hK
      have HX := Lib.hid hx
      have HKK := Lib.hid hK
      have HLL := Lib.hid hL
      have HMK := Lib.hid hmk
      have HSZ := Lib.hid hsz
      clear hK hC hL hrd hx hmk emk hsz
      go_wp2_with (first
        | ((with_reducible show wpList _ _ _ _ _ wr); refine load_ch (w := wr) (by rfl) _ rfl (N + 1) 27 (k : Int) mk (by rfl) HKK.out HMK.out ?_)
        | (go_at_call 10; refine HX.out.mono ?_; rintro e w3 ⟨rfl, hL3⟩; have hz3 := hL3.size; have hM3 : Below N w w3 := (below_more HLL.out hL3 (by have := HSZ.out; omega)); have hN3 : N + 2 ≤ w3.heap.size := (by have := HSZ.out; omega))
        | ((with_reducible show wpList _ _ _ _ _ w3); refine alloc_row (w := w3) rfl 27 rfl (.agg (ch 0 (List.replicate 16 0))) 17 (fun _ => by kernel_rfl) (by kernel_rfl) ?_; intro w4 hR4 _ hG4 hz4; have hM4 : Below N w w4 := (below_none hM3 (by omega) hG4); obtain ⟨g4, eg4⟩ : ∃ x, w3.heap.size = x := ⟨_, rfl⟩; rw [eg4] at hR4 hz4 hN3 ⊢)
        | ((with_reducible show wpList _ _ _ _ _ w4); refine store_ch (w := w4) rfl 27 _ _ rfl g4 27 (k : Int) mk (by rfl) (by rfl) hR4 HMK.out (by kernel_rfl) ?_; intro w5 hC5 hG5 hz5; have hM5 : Below N w w5 := (below_new hM4 (by omega) hG5 (by omega)); clear hC5 hR4; have HM5 := Lib.hid hM5; have HZ5 := Lib.hid (show N ≤ w5.heap.size from (by omega)); clear hM5 hM4 hM3 hG4 hG5 hz4 hz5))
      go_ret
      refine ⟨_, rfl, ⟨w5.heap.size, _, rfl, heap_alloc_new w5 _, rfl⟩, ?_⟩
      first | exact below_alloc HM5.out HZ5.out _ | (rw [HN.out]; exact below_alloc HM5.out HZ5.out _)
end Go.Proofs.Ytpfmhohldfnhmaa
