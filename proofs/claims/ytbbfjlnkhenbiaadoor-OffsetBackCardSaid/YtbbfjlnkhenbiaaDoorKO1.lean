/- The references of layers 8 and 14: digits. -/
import Derived.Test.YtbbfjlnkhenbiaaDoorKO0
import Derived.Test.YtbbfjlnkhenbiaaDoorKM0
import Derived.Laws.Concat
import Derived.Test.YtbbfjlnkhenbiaaDoorKB5
import Derived.Test.YtbbfjlnkhenbiaaDoorKB0
set_option linter.unusedVariables false
set_option linter.unusedSimpArgs false
namespace Lk
open Go Go.RowKit
theorem dv_num (c : UInt8) (h1 : 48 ≤ bv c) (h2 : bv c ≤ 57) : (dv c : Int) = bv c - 48 := by
  unfold bv at *
  unfold dv
  rw [if_pos ⟨by omega, by omega⟩]; omega
theorem dv_let (c : UInt8) (h1 : 65 ≤ bv c) (h2 : bv c ≤ 70) : (dv c : Int) = bv c - 55 := by
  unfold bv at *
  unfold dv
  rw [if_neg (by omega), if_pos ⟨by omega, by omega⟩]; omega
theorem dv_non (c : UInt8) (h : ¬ (48 ≤ bv c ∧ bv c ≤ 57)) (h' : ¬ (65 ≤ bv c ∧ bv c ≤ 70)) : dv c = 99 := by
  unfold bv at *
  unfold dv
  rw [if_neg (by omega), if_neg (by omega)]
end Lk
namespace Go.Proofs.YtbbfjlnkhenbiaaDoor
open Go Go.RowKit Lk
set_option maxRecDepth 100000 in
theorem Value_any (c : UInt8) (w : World) : Calls Tryd.prog 44 #[.int .u8 (bv c)] w fun e w' => e = .returned (.int .i64 (dv c)) ∧ w' = w := by
  obtain ⟨z, hz⟩ : ∃ z, bv c = z := ⟨_, rfl⟩
  obtain ⟨d, hd⟩ : ∃ d : Int, (dv c : Int) = d := ⟨_, rfl⟩
  have h0 := bv_ge c
  have hl := bv_lt c
  have H1 := dv_num c
  have H2 := dv_let c
  have H3 := dv_non c
  rw [hz] at h0 hl H1 H2 H3 ⊢
  rw [hd] at H1 H2 ⊢
  have H3' : ¬ (48 ≤ z ∧ z ≤ 57) → ¬ (65 ≤ z ∧ z ≤ 70) → d = 99 := fun h h' => by rw [← hd, H3 h h']; rfl
  clear H3 hz hd
  by_cases a1 : 48 ≤ z
  · have a1' : z ≥ 48 := a1
    by_cases a2 : z ≤ 57
    · obtain rfl := H1 a1 a2
      clear H1 H2 H3'
      go_enter Tryd.func44, Tryd.ntmps44
      go_wp2
      go_ret
      exact ⟨by first | rfl | trivial, rfl⟩
    · by_cases b1 : 65 ≤ z
      · have b1' : z ≥ 65 := b1
        by_cases b2 : z ≤ 70
        · obtain rfl := H2 b1 b2
          clear H1 H2 H3'
          go_enter Tryd.func44, Tryd.ntmps44
          go_wp2
          go_ret
          exact ⟨by first | rfl | trivial, rfl⟩
        · obtain rfl := H3' (by omega) (by omega)
          clear H1 H2 H3'
          go_enter Tryd.func44, Tryd.ntmps44
          go_wp2
          go_ret
          exact ⟨rfl, rfl⟩
      · have b1' : ¬ z ≥ 65 := b1
        obtain rfl := H3' (by omega) (by omega)
        clear H1 H2 H3'
        go_enter Tryd.func44, Tryd.ntmps44
        go_wp2
        go_ret
        exact ⟨rfl, rfl⟩
  · have a1' : ¬ z ≥ 48 := a1
    have b1 : ¬ z ≥ 65 := by omega
    obtain rfl := H3' (by omega) (by omega)
    clear H1 H2 H3'
    go_enter Tryd.func44, Tryd.ntmps44
    go_wp2
    go_ret
    exact ⟨rfl, rfl⟩
theorem run_cv1 (w : World) (y : UInt8) (z : Int) (hz : z = bv y) : (convert 22 9 (.slice (some ⟨w.heap.size, 0, none⟩) 1 1)).run Tryd.prog (w.alloc (.cells #[.int .u8 z] 5)) = .ok (.string (ofL [y])) (w.alloc (.cells #[.int .u8 z] 5)) := by
  subst hz
  refine run_convert_bytes_back _ 22 9 5 ⟨w.heap.size, 0, none⟩ 1 [y] hu_sl (by kernel_rfl) hu_str ?_
  intro j hj
  obtain rfl : j = 0 := by simpa using hj
  have : (⟨w.heap.size, 0, none⟩ : Addr).add 0 = ⟨w.heap.size, 0, none⟩ := by unfold Addr.add; simp
  rw [this, World.cell?_alloc_at _ _ _ _ rfl]
  rfl
set_option maxRecDepth 100000 in
theorem Digit_any (n : Nat) (w : World) (hn : n < 16) : Calls Tryd.prog 45 #[.int .i64 n] w fun e w' => e = .returned (.string (ofL [hx n])) ∧ Below w.heap.size w w' := by
  obtain ⟨y, ey⟩ : ∃ y, hx n = y := ⟨_, rfl⟩
  have hG : ∀ n : Fin 16, bv (hx n.val) = if n.val < 10 then 48 + (n.val : Int) else 55 + (n.val : Int) := by decide +kernel
  have hg := hG ⟨n, hn⟩
  simp only at hg
  clear hG
  by_cases h : n < 10
  · rw [if_pos h, ey] at hg
    have hi : (n : Int) < 10 := by omega
    have hw1 : wrap64 (48 + (n : Int)) = 48 + (n : Int) := by unfold wrap64; omega
    have hcv := run_cv1 w y (48 + (n : Int)) hg.symm
    rw [ey]
    clear ey hg
    go_enter Tryd.func45, Tryd.ntmps45
    go_wp2
    go_ret
    exact ⟨rfl, below_alloc (Below.refl _ _) (Nat.le_refl _) _⟩
  · rw [if_neg h, ey] at hg
    have hi : ¬ (n : Int) < 10 := by omega
    have hw1 : wrap64 (55 + (n : Int)) = 55 + (n : Int) := by unfold wrap64; omega
    have hcv := run_cv1 w y (55 + (n : Int)) hg.symm
    rw [ey]
    clear ey hg h
    go_enter Tryd.func45, Tryd.ntmps45
    go_wp2
    go_ret
    exact ⟨rfl, below_alloc (Below.refl _ _) (Nat.le_refl _) _⟩
set_option maxHeartbeats 1600000 in
set_option maxRecDepth 100000 in
theorem First_any (s : ByteArray) (b : Nat) (w : World) (hs : s.size ≤ 1000) : Calls Tryd.prog 27 #[.string s, .int .i64 b] w fun e w' => e = .returned (.int .i64 (pf b (sb s))) ∧ w' = w := by
  obtain ⟨P, hP⟩ : ∃ P, pf b (sb s) = P := ⟨_, rfl⟩
  have HP := Lib.hid hP
  rw [hP]
  have HSZ := Lib.hid hs
  clear hP hs
  go_enter Tryd.func27, Tryd.ntmps27
  go_wp2
  go_loopw [5] (fun i wr => ∃ k : Nat, k ≤ s.size ∧ i = .int .i64 k ∧ (∀ j, j < k → dv (g8 (sb s) j) < b) ∧ wr = w) (fun i _ => s.size - (intOf i).toNat)
  case atStart => exact ⟨0, by omega, rfl, fun j hj => by omega, rfl⟩
  case round =>
    obtain ⟨k, hk, rfl, hok, rfl⟩ := hrel
    by_cases hlt : k < s.size
    · have hik : (k : Int) < (s.size : Int) := by omega
      have HLT := Lib.hid hlt
      have HOK := Lib.hid hok
      have HV := Lib.hid (show Calls Tryd.prog 44 #[.int .u8 (((s[k]'hlt).toNat : Nat) : Int)] wr fun e w' => e = .returned (.int .i64 (dv (g8 (sb s) k))) ∧ w' = wr from by rw [sget_bv s k hlt]; exact Value_any _ _)
      obtain ⟨q, hq⟩ : ∃ q, dv (g8 (sb s) k) = q := ⟨_, rfl⟩
      rw [hq] at HV
      have HQ := Lib.hid hq
      clear hok hq
      by_cases h0 : b ≤ q
      · have hq0 : (q : Int) ≥ (b : Int) := by omega
        have HH := Lib.hid (pf_at (b := b) (l := sb s) (k := k) (by rw [sb_len]; exact hlt) HOK.out (by rw [HQ.out]; exact h0))
        clear h0
        go_wp2_with (go_at_call 44; refine HV.out.mono ?_; rintro e w5 ⟨rfl, rfl⟩)
        go_ret
        exact ⟨by rw [← HP.out, HH.out]; rfl, rfl⟩
      · have hq0 : ¬ (q : Int) ≥ (b : Int) := by omega
        have HH := Lib.hid h0
        clear h0
        go_wp2_with (go_at_call 44; refine HV.out.mono ?_; rintro e w5 ⟨rfl, rfl⟩)
        refine ⟨⟨k + 1, HLT.out, by have := HLT.out; have := HSZ.out; rw [show wrap64 ((k : Int) + 1) = ((k + 1 : Nat) : Int) from by unfold wrap64; omega], fun j hj => ?_, by first | rfl | trivial⟩, by have := HLT.out; have := HSZ.out; rw [show wrap64 ((k : Int) + 1) = (k : Int) + 1 from by unfold wrap64; omega]; show s.size - ((k : Int) + 1).toNat < s.size - (k : Int).toNat; omega⟩
        by_cases e : j = k
        · rw [e, HQ.out]; have := HH.out; omega
        · exact HOK.out j (by omega)
    · have hik : ¬ (k : Int) < (s.size : Int) := by omega
      have HH := Lib.hid (pf_none (b := b) (l := sb s) fun j hj => hok j (by rw [sb_len] at hj; omega))
      clear hok
      go_wp2
      go_ret
      exact ⟨by rw [← HP.out, HH.out]; rfl, rfl⟩
set_option maxRecDepth 100000 in
theorem Wrong_any (s : ByteArray) (least most : Nat) (w : World) (hs : s.size ≤ 1000) : Calls Tryd.prog 21 #[.string s, .int .i64 least, .int .i64 most] w fun e w' => e = .returned (.tuple #[.int .i64 (pwrong (sb s) least most).1, .int .i64 (pwrong (sb s) least most).2]) ∧ w' = w := by
  have HF := Lib.hid (First_any s 10 w hs)
  unfold pwrong
  rw [sb_len]
  by_cases h1 : s.size < least
  · rw [if_pos (.inl h1)]
    have i1 : (s.size : Int) < (least : Int) := by omega
    clear h1 hs
    go_enter Tryd.func21, Tryd.ntmps21
    go_wp2
    go_ret2
    exact ⟨rfl, rfl⟩
  by_cases h2 : most < s.size
  · rw [if_pos (.inr h2)]
    have i1 : ¬ (s.size : Int) < (least : Int) := by omega
    have i2 : (s.size : Int) > (most : Int) := by omega
    clear h1 h2 hs
    go_enter Tryd.func21, Tryd.ntmps21
    go_wp2
    go_ret2
    exact ⟨rfl, rfl⟩
  rw [if_neg (by omega)]
  have i1 : ¬ (s.size : Int) < (least : Int) := by omega
  have i2 : ¬ (s.size : Int) > (most : Int) := by omega
  obtain ⟨P, hP⟩ : ∃ P, pf 10 (sb s) = P := ⟨_, rfl⟩
  rw [hP] at HF ⊢
  clear h1 h2 hs hP
  by_cases h3 : 0 ≤ P
  · rw [if_pos h3]
    have h3' : P ≥ 0 := h3
    go_enter Tryd.func21, Tryd.ntmps21
    go_wp2_with (go_at_call 27; refine HF.out.mono ?_; rintro e w5 ⟨rfl, rfl⟩)
    go_ret2
    exact ⟨rfl, rfl⟩
  · rw [if_neg h3]
    have h3' : ¬ P ≥ 0 := h3
    go_enter Tryd.func21, Tryd.ntmps21
    go_wp2_with (go_at_call 27; refine HF.out.mono ?_; rintro e w5 ⟨rfl, rfl⟩)
    go_ret2
    exact ⟨rfl, rfl⟩
end Go.Proofs.YtbbfjlnkhenbiaaDoor
set_option linter.unusedVariables false
set_option linter.unusedSimpArgs false
namespace Lk
open Go Go.RowKit
theorem ofL_app (a b : List UInt8) : ofL a ++ ofL b = ofL (a ++ b) := by unfold ofL; rw [ByteArray.mk_append_mk]
theorem exec_sadd {P : Program} (o : Oper) (a : Act) (t r : TypeId) (x y : Operand) (ho : o.op = .binOp .add t x y r) (l m : List UInt8) (hx : a.eval x = .string (ofL l)) (hy : a.eval y = .string (ofL m)) (h : l.length + m.length ≤ 1000000) (w : World) :
    (execOp a.eval o).run P w = .ok (.value (.string (ofL (l ++ m)))) w := by
  have h1 := run_string_add_sum (P := P) w (ofL l) (ofL m) (by rw [ofL_size, ofL_size]; omega)
  rw [ofL_app] at h1
  unfold execOp
  simp only [ho, hx, hy]
  simp [eqGuard, binOp_string_add, h1, Sem.run_bind, Sem.run_pure, Result.andThen]
theorem op_sadd {P : Program} {ops : Array Oper} {rest : List Oper} {o : Oper} {a : Act} {w : World} {Q : Exit → Act → World → Prop} (hgd : o.guard = none) (t r : TypeId) (x y : Operand) (ho : o.op = .binOp .add t x y r) (l m : List UInt8) (hx : a.eval x = .string (ofL l)) (hy : a.eval y = .string (ofL m)) (h : l.length + m.length ≤ 1000000)
    (hk : wpList P ops Q rest (a.put o.dst (.string (ofL (l ++ m)))) w) : wpList P ops Q (o :: rest) a w :=
  wpList_plain hgd fun _ hK => by
    unfold Oper.wp
    rw [exec_sadd o a t r x y ho l m hx hy h w]
    exact hK _ _ hk
theorem wrap_bv (d : UInt8) : wrap64 (bv d) = bv d := by unfold bv wrap64; have := d.toNat_lt; omega
end Lk
namespace Go.Proofs.YtbbfjlnkhenbiaaDoor
open Go Go.RowKit Lk
end Go.Proofs.YtbbfjlnkhenbiaaDoor
set_option linter.unusedVariables false
set_option linter.unusedSimpArgs false
namespace Go.Proofs.YtbbfjlnkhenbiaaDoor
open Go Go.RowKit Lk
set_option maxHeartbeats 3200000 in
set_option maxRecDepth 100000 in
theorem rMod_any (s t : ByteArray) (back : Bool) (w : World) (hs : s.size ≤ 1000) (ht : s.size = t.size) (h1 : pf 10 (sb s) = -1) (h2 : pf 10 (sb t) = -1) : Calls Tryd.prog 25 #[.string s, .string t, .bool back] w fun e w' => e = .returned (.string (ofL (pmod (sb s) (sb t) back))) ∧ Below w.heap.size w w' := by
  obtain ⟨N, hN⟩ : ∃ N, w.heap.size = N := ⟨_, rfl⟩
  have HN := Lib.hid hN
  have HD1 := Lib.hid (pf_neg (show pf 10 (sb s) < 0 by omega)).2
  have HD2 := Lib.hid (pf_neg (show pf 10 (sb t) < 0 by omega)).2
  have HT := Lib.hid ht
  have HSZ := Lib.hid hs
  clear ht h1 h2 hs hN
  go_enter Tryd.func25, Tryd.ntmps25
  go_wp2
  go_loopw [7, 8] (fun o i wr => ∃ k : Nat, k ≤ s.size ∧ i = .int .i64 k ∧ o = .string (ofL (modTo (sb s) (sb t) back k)) ∧ Below N w wr) (fun _ i _ => s.size - (intOf i).toNat)
  case atStart => exact ⟨0, by omega, rfl, rfl, Below.refl _ _⟩
  case round =>
    obtain ⟨k, hk, rfl, rfl, hM⟩ := hrel
    have HM := Lib.hid hM
    clear hM
    by_cases hlt : k < s.size
    · have hik : (k : Int) < (s.size : Int) := by omega
      have HLT := Lib.hid hlt
      have hlt2 : k < t.size := by have := HT.out; omega
      have hik2 : (k : Int) < (t.size : Int) := by omega
      obtain ⟨p, ep⟩ : ∃ p, dv (g8 (sb s) k) = p := ⟨_, rfl⟩
      obtain ⟨q, eq⟩ : ∃ q, dv (g8 (sb t) k) = q := ⟨_, rfl⟩
      have EP := Lib.hid ep
      have EQ := Lib.hid eq
      have p9 : p < 10 := by rw [← ep]; exact HD1.out k (by rw [sb_len]; exact hlt)
      have q9 : q < 10 := by rw [← eq]; exact HD2.out k (by rw [sb_len]; exact hlt2)
      have HVs := Lib.hid (fun wq => (show Calls Tryd.prog 44 #[.int .u8 (((s[k]'hlt).toNat : Nat) : Int)] wq fun e w' => e = .returned (.int .i64 p) ∧ w' = wq from by rw [sget_bv s k hlt, ← ep]; exact Value_any _ _))
      have HVt := Lib.hid (fun wq => (show Calls Tryd.prog 44 #[.int .u8 (((t[k]'hlt2).toNat : Nat) : Int)] wq fun e w' => e = .returned (.int .i64 q) ∧ w' = wq from by rw [sget_bv t k hlt2, ← eq]; exact Value_any _ _))
      clear ep eq
      obtain ⟨P, eP⟩ : ∃ P, modTo (sb s) (sb t) back k = P := ⟨_, rfl⟩
      have HPL := Lib.hid (show P.length ≤ 3000 from by rw [← eP, modTo_len]; have := HSZ.out; omega)
      have HEP := Lib.hid eP
      rw [eP]
      clear eP
      cases back
      · have hw1 : wrap64 ((p : Int) + (q : Int)) = (p : Int) + (q : Int) := by unfold wrap64; omega
        have HD := Lib.hid (fun w => Digit_any ((p + q) % 10) w (by omega))
        obtain ⟨h1, eh1⟩ : ∃ h1, hx ((p + q) % 10) = h1 := ⟨_, rfl⟩
        rw [eh1] at HD
        have EH := Lib.hid (show modTo (sb s) (sb t) false (k + 1) = P ++ [h1] from by rw [modTo_succ, HEP.out, ← eh1]; unfold padd; rw [EP.out, EQ.out]; rfl)
        have HP9 := Lib.hid p9
        have HQ9 := Lib.hid q9
        clear eh1
        go_wp2
        refine wp_region_cls (fun w9 => ∃ n, w9 = wr.drewN n) (by kernel_rfl) (by kernel_rfl) ⟨1, rfl⟩ ?_
        repeat (go_big_quiet_step (fail))
        refine quiet_enter (by kernel_rfl) 44 #[.int .u8 (((s[k]'hlt).toNat : Nat) : Int)] (.int .i64 p) (fun _ => by kernel_rfl) (fun w9 h9 => by obtain ⟨n9, h9⟩ := h9; exact (HVs.out w9).mono fun e w' q => ⟨q.1, n9, q.2.trans h9⟩) ?_
        simp only [Act.put, List.setIfInBounds_toArray, List.set_cons_succ, List.set_cons_zero]
        repeat (go_big_quiet_step (fail))
        refine quiet_enter (by kernel_rfl) 44 #[.int .u8 (((t[k]'hlt2).toNat : Nat) : Int)] (.int .i64 q) (fun _ => by kernel_rfl) (fun w9 h9 => by obtain ⟨n9, h9⟩ := h9; exact (HVt.out w9).mono fun e w' q => ⟨q.1, n9, q.2.trans h9⟩) ?_
        simp only [Act.put, List.setIfInBounds_toArray, List.set_cons_succ, List.set_cons_zero]
        repeat (go_big_quiet_step (fail))
        refine wpQuiet_nil ?_
        rintro _ ⟨nq, rfl⟩
        go_wp2_with (first
          | (go_at_call 45; rw [show (((p : Int) + (q : Int)) % 10) = (((p + q) % 10 : Nat) : Int) from by have := HP9.out; have := HQ9.out; omega]; refine (HD.out _).mono ?_; rintro e w2 ⟨rfl, hL2⟩)
          | ((with_reducible show wpList _ _ _ _ _ w2); refine op_sadd (w := w2) rfl _ _ _ _ rfl P [h1] (by rfl) (by rfl) (by have := HPL.out; simp; omega) ?_))
        refine ⟨⟨k + 1, HLT.out, by have := HLT.out; have := HSZ.out; rw [show wrap64 ((k : Int) + 1) = ((k + 1 : Nat) : Int) from by unfold wrap64; omega], by rw [EH.out], below_mr (below_mr HM.out (Drawn.below0 ⟨nq, rfl⟩) (by have := HM.out.size; have := HN.out; omega)) hL2 (by have := HM.out.size; have := HN.out; show N ≤ wr.heap.size; omega)⟩, by have := HLT.out; have := HSZ.out; rw [show wrap64 ((k : Int) + 1) = (k : Int) + 1 from by unfold wrap64; omega]; show s.size - ((k : Int) + 1).toNat < s.size - (k : Int).toNat; omega⟩
      · have hw0 : wrap64 ((p : Int) + (q : Int)) = (p : Int) + (q : Int) := by unfold wrap64; omega
        have hw1 : wrap64 ((p : Int) - (q : Int)) = (p : Int) - (q : Int) := by unfold wrap64; omega
        obtain ⟨R, eR⟩ : ∃ R, p + (10 - q) = R := ⟨_, rfl⟩
        have hw2 : wrap64 ((p : Int) - (q : Int) + 10) = (R : Int) := by unfold wrap64; omega
        have HER := Lib.hid eR
        clear eR
        have HD := Lib.hid (fun w => Digit_any (R % 10) w (by omega))
        obtain ⟨h1, eh1⟩ : ∃ h1, hx (R % 10) = h1 := ⟨_, rfl⟩
        rw [eh1] at HD
        have EH := Lib.hid (show modTo (sb s) (sb t) true (k + 1) = P ++ [h1] from by rw [modTo_succ, HEP.out, ← eh1]; unfold padd; rw [EP.out, EQ.out, ← HER.out]; rfl)
        have HP9 := Lib.hid p9
        have HQ9 := Lib.hid q9
        clear eh1
        go_wp2
        refine wp_region_cls (fun w9 => ∃ n, w9 = wr.drewN n) (by kernel_rfl) (by kernel_rfl) ⟨1, rfl⟩ ?_
        repeat (go_big_quiet_step (fail))
        refine quiet_enter (by kernel_rfl) 44 #[.int .u8 (((s[k]'hlt).toNat : Nat) : Int)] (.int .i64 p) (fun _ => by kernel_rfl) (fun w9 h9 => by obtain ⟨n9, h9⟩ := h9; exact (HVs.out w9).mono fun e w' q => ⟨q.1, n9, q.2.trans h9⟩) ?_
        simp only [Act.put, List.setIfInBounds_toArray, List.set_cons_succ, List.set_cons_zero]
        repeat (go_big_quiet_step (fail))
        refine quiet_enter (by kernel_rfl) 44 #[.int .u8 (((t[k]'hlt2).toNat : Nat) : Int)] (.int .i64 q) (fun _ => by kernel_rfl) (fun w9 h9 => by obtain ⟨n9, h9⟩ := h9; exact (HVt.out w9).mono fun e w' q => ⟨q.1, n9, q.2.trans h9⟩) ?_
        simp only [Act.put, List.setIfInBounds_toArray, List.set_cons_succ, List.set_cons_zero]
        repeat (go_big_quiet_step (fail))
        refine wpQuiet_nil ?_
        rintro _ ⟨nq, rfl⟩
        have hMv : Below N w (wr.drewN nq) := below_mr HM.out (Drawn.below0 ⟨nq, rfl⟩) (by have := HM.out.size; have := HN.out; omega)
        generalize wr.drewN nq = v at hMv ⊢
        have HMv := Lib.hid hMv
        clear hMv
        go_wp2
        refine wp_region_cls (fun w9 => ∃ n, w9 = v.drewN n) (by kernel_rfl) (by kernel_rfl) ⟨1, rfl⟩ ?_
        repeat (go_big_quiet_step (fail))
        refine quiet_enter (by kernel_rfl) 44 #[.int .u8 (((s[k]'hlt).toNat : Nat) : Int)] (.int .i64 p) (fun _ => by kernel_rfl) (fun w9 h9 => by obtain ⟨n9, h9⟩ := h9; exact (HVs.out w9).mono fun e w' q => ⟨q.1, n9, q.2.trans h9⟩) ?_
        simp only [Act.put, List.setIfInBounds_toArray, List.set_cons_succ, List.set_cons_zero]
        repeat (go_big_quiet_step (fail))
        refine quiet_enter (by kernel_rfl) 44 #[.int .u8 (((t[k]'hlt2).toNat : Nat) : Int)] (.int .i64 q) (fun _ => by kernel_rfl) (fun w9 h9 => by obtain ⟨n9, h9⟩ := h9; exact (HVt.out w9).mono fun e w' q => ⟨q.1, n9, q.2.trans h9⟩) ?_
        simp only [Act.put, List.setIfInBounds_toArray, List.set_cons_succ, List.set_cons_zero]
        repeat (go_big_quiet_step (fail))
        refine wpQuiet_nil ?_
        rintro _ ⟨nq2, rfl⟩
        go_wp2_with (first
          | (go_at_call 45; rw [show ((p : Int) - (q : Int)) % 10 = ((R % 10 : Nat) : Int) from by have := HER.out; have := HP9.out; have := HQ9.out; omega]; refine (HD.out _).mono ?_; rintro e w2 ⟨rfl, hL2⟩)
          | ((with_reducible show wpList _ _ _ _ _ w2); refine op_sadd (w := w2) rfl _ _ _ _ rfl P [h1] (by rfl) (by rfl) (by have := HPL.out; simp; omega) ?_))
        refine ⟨⟨k + 1, HLT.out, by have := HLT.out; have := HSZ.out; rw [show wrap64 ((k : Int) + 1) = ((k + 1 : Nat) : Int) from by unfold wrap64; omega], by rw [EH.out], below_mr (below_mr HMv.out (Drawn.below0 ⟨nq2, rfl⟩) (by have := HMv.out.size; have := HN.out; omega)) hL2 (by have := HMv.out.size; have := HN.out; show N ≤ v.heap.size; omega)⟩, by have := HLT.out; have := HSZ.out; rw [show wrap64 ((k : Int) + 1) = (k : Int) + 1 from by unfold wrap64; omega]; show s.size - ((k : Int) + 1).toNat < s.size - (k : Int).toNat; omega⟩
    · have hik : ¬ (k : Int) < (s.size : Int) := by omega
      have HE := Lib.hid (show modTo (sb s) (sb t) back k = pmod (sb s) (sb t) back from by rw [show k = s.size by omega]; unfold modTo pmod; rw [sb_len])
      clear hlt
      go_wp2
      go_ret
      exact ⟨by rw [← HE.out]; rfl, by rw [HN.out]; exact HM.out⟩
end Go.Proofs.YtbbfjlnkhenbiaaDoor
set_option linter.unusedVariables false
set_option linter.unusedSimpArgs false
namespace Go.Proofs.YtbbfjlnkhenbiaaDoor
open Go Go.RowKit Lk
/-- strings in a slice -/
def Ss (l : List ByteArray) : List Value := l.map Value.string
theorem Ss_get (l : List ByteArray) (k : Nat) (h : k < l.length) : (Ss l)[k]? = some (.string l[k]) := by simp [Ss, h]
end Go.Proofs.YtbbfjlnkhenbiaaDoor
set_option linter.unusedVariables false
set_option linter.unusedSimpArgs false
namespace Lk
open Go Go.RowKit
theorem pmod_self (l : List UInt8) (h : ∀ c ∈ l, dv c < 10) : pmod l l true = List.replicate l.length 48 := by
  apply List.ext_getElem
  · simp [pmod]
  · intro i h1 h2
    simp only [pmod, List.getElem_map, List.getElem_range, List.getElem_replicate]
    have hi : i < l.length := by simpa [pmod] using h1
    have hd : dv (g8 l i) < 10 := h _ (by unfold g8; simp [hi])
    unfold padd
    rw [if_pos rfl, show (dv (g8 l i) + (10 - dv (g8 l i))) % 10 = 0 by omega]
    rfl
def TAB : ByteArray := ⟨#[48, 49, 50, 51, 52, 53, 54, 55, 56, 57, 48, 49, 50, 51, 52, 53]⟩
def DAT : ByteArray := ⟨#[50, 49, 48, 49, 50, 51, 52, 53, 54, 55, 56, 57, 70, 70, 70, 70]⟩
def ACC : ByteArray := ⟨#[53, 52, 51, 50, 49, 48, 49, 50, 51, 52, 53, 54, 55, 56, 57, 49]⟩
def SIX : ByteArray := ⟨#[48, 48, 48, 48, 48, 48]⟩
end Lk
namespace Go.Proofs.YtbbfjlnkhenbiaaDoor
open Go Go.RowKit Lk
theorem pdat_acc : pdat ACC = DAT := by decide +kernel
theorem acc_ok : pwrong (sb ACC) 13 19 = (0, -1) := by decide +kernel
theorem pnat_key (key : List UInt8) (hk : key.length = 16) (data table : ByteArray) (hd : data.size = 16) (hp : pf 16 (sb data) = -1) (ht : table.size = 16) (hq : pf 10 (sb table) = -1) (m : Nat) (h4 : 4 ≤ m) (h12 : m ≤ 12) : pnat key data table m = (ofL (pnatL key data table m), 0, -1) := by
  unfold pnat
  rw [if_neg (by omega), if_neg (by omega), hp, if_neg (by omega), if_neg (by omega), hq, if_neg (by omega)]
  rfl
theorem pof_key (key : List UInt8) (hk : key.length = 16) (data table p : ByteArray) (hd : data.size = 16) (hp : pf 16 (sb data) = -1) (ht : table.size = 16) (hq : pf 10 (sb table) = -1) (h4 : 4 ≤ p.size) (h12 : p.size ≤ 12) (hpd : pf 10 (sb p) = -1) : pof key data table p = (ofL (pmod (sb p) (pnatL key data table p.size) true), 0, -1) := by
  have hw : pwrong (sb p) 4 12 = (0, -1) := by unfold pwrong; rw [sb_len, if_neg (by omega), hpd, if_neg (by omega)]
  unfold pof
  rw [hw, pnat_key key hk data table hd hp ht hq p.size h4 h12, if_neg (by simp), if_neg (by simp), sb_ofL]
set_option maxHeartbeats 3200000 in
set_option maxRecDepth 100000 in
theorem awake15_any (w : World) : Calls Tryd.prog 22 #[] w fun e w' => e = .returned (.bool true) ∧ Below w.heap.size w w' := by
  obtain ⟨key, hkey⟩ : ∃ key : List UInt8, key = List.replicate 16 0 := ⟨_, rfl⟩
  have hkl : key.length = 16 := by rw [hkey]; rfl
  obtain ⟨nn, hnn⟩ : ∃ nn, ofL (pnatL key DAT TAB 6) = nn := ⟨_, rfl⟩
  have hns : nn.size = 6 := by rw [← hnn, ofL_size, pnatL_len _ _ _ _ (by decide)]
  have hnd : pf 10 (sb nn) = -1 := by rw [← hnn, sb_ofL]; exact pnatL_dig _ _ _ _ rfl (by decide +kernel)
  have hn6 : pnat key DAT TAB 6 = (nn, 0, -1) := by rw [← hnn]; exact pnat_key key hkl DAT TAB rfl (by decide +kernel) rfl (by decide +kernel) 6 (by decide) (by decide)
  have hof : pof key DAT TAB nn = (SIX, 0, -1) := by
    rw [pof_key key hkl DAT TAB nn rfl (by decide +kernel) rfl (by decide +kernel) (by omega) (by omega) hnd, hns]
    rw [show pnatL key DAT TAB 6 = sb nn from by rw [← hnn, sb_ofL], pmod_self _ (all_of_pf (by omega)), sb_len, hns]
    rfl
  have hver : pver key DAT TAB SIX nn = (0, -1) := by
    unfold pver
    rw [hof, if_neg (by simp), if_neg (by rw [hns]; decide), show pf 10 (sb SIX) = -1 from by decide +kernel, if_neg (by decide), if_pos rfl]
  have HDa := Lib.hid (fun w => by have h := Data_ok ACC w acc_ok; rw [pdat_acc] at h; exact h)
  have HNa := Lib.hid (fun (v : Value) (w1 : World) (h : SlB w1 v key) => by have h := Natural_any v key DAT TAB 6 w1 h; rw [hn6] at h; exact h)
  have HOf := Lib.hid (fun (v : Value) (w1 : World) (h : SlB w1 v key) => by have h := Of_any v key DAT TAB nn w1 h (by omega); rw [hof] at h; exact h)
  have HVe := Lib.hid (fun (v : Value) (w1 : World) (h : SlB w1 v key) => by have h := VerifyO_any v key DAT TAB SIX nn w1 h (by omega) (by decide); rw [hver] at h; exact h)
  have hns' : (nn.size : Int) = 6 := by omega
  have hDL : (DAT.toList == [50, 49, 48, 49, 50, 51, 52, 53, 54, 55, 56, 57, 70, 70, 70, 70]) = true := by rw [ByteArray.toList_eq]; decide +kernel
  have hSL : (SIX.toList == [48, 48, 48, 48, 48, 48]) = true := by rw [ByteArray.toList_eq]; decide +kernel
  have HKL := Lib.hid hkl
  have HKEY := Lib.hid hkey
  clear hkey hkl hnn hns hnd hn6 hof hver
  go_enter Tryd.func22, Tryd.ntmps22
  go_wp2_with (first
    | (refine make_new (w := w) rfl 22 5 _ _ rfl 16 (by kernel_rfl) (by kernel_rfl) .i64 .i64 rfl rfl (by omega) ?_; intro w1 hB hG hz; have hL1 : Below w.heap.size w w1 := (below_none (Below.refl _ _) (Nat.le_refl _) hG); have HS1 := Lib.hid (show SlB w1 (.slice (some ⟨w.heap.size, 0, none⟩) 16 16) key from (by rw [HKEY.out]; exact hB.slB rfl (by decide))))
    | (go_at_call 23; refine (HDa.out _).mono ?_; rintro e w2 ⟨rfl, hL2⟩; have hM2 := below_more hL1 hL2 hL1.size; have HS2 := Lib.hid (HS1.out.below hL2))
    | (go_at_call 24; refine (HNa.out _ w2 HS2.out).mono ?_; rintro e w3 ⟨v3, rfl, hE3, hL3⟩; obtain rfl := hE3.nil; have hM3 := below_more hM2 hL3 hM2.size; have HS3 := Lib.hid (HS2.out.below hL3))
    | (go_at_call 39; refine (HOf.out _ w3 HS3.out).mono ?_; rintro e w4 ⟨v4, rfl, hE4, hL4⟩; obtain rfl := hE4.nil; have hM4 := below_more hM3 hL4 hM3.size; have HS4 := Lib.hid (HS3.out.below hL4))
    | (go_at_call 26; refine (HVe.out _ w4 HS4.out).mono ?_; rintro e w5 ⟨v5, rfl, hE5, hL5⟩; obtain rfl := hE5.nil; have hM5 := below_more hM4 hL5 hM4.size))
  go_ret
  exact ⟨rfl, hM5⟩
end Go.Proofs.YtbbfjlnkhenbiaaDoor
