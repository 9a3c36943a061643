/- Slices of tries (an officer, a code, a mark). -/
import Derived.Test.YtbbfjlnkhenbiaaGreatDoorKR6
import Derived.Test.YtbbfjlnkhenbiaaGreatDoorKR1
import Derived.Test.YtbbfjlnkhenbiaaGreatDoorKOH
import Derived.Test.YtbbfjlnkhenbiaaGreatDoorKG3
import Derived.Test.YtbbfjlnkhenbiaaGreatDoorKG0
set_option linter.unusedVariables false
set_option linter.unusedSimpArgs false
namespace Lk
open Go Go.RowKit
/-- the value is a slice of L tries: who, code, leave -/
def SlT (w : World) (v : Value) (L : Nat) (tw : Nat → Int) (tc : Nat → ByteArray) (tl : Nat → Bool) : Prop :=
  ∃ A c, v = .slice A L c ∧ L ≤ c ∧ (0 < L → ∃ g o, A = some ⟨g, o, none⟩ ∧ ∀ k, k < L → w.cell? ⟨g, o + k * 3, none⟩ = some (.int .i64 (tw k)) ∧ w.cell? ⟨g, o + k * 3 + 1, none⟩ = some (.string (tc k)) ∧ w.cell? ⟨g, o + k * 3 + 2, none⟩ = some (.bool (tl k)))
theorem slT_nil (w : World) (tw : Nat → Int) (tc : Nat → ByteArray) (tl : Nat → Bool) : SlT w (.slice none 0 0) 0 tw tc tl := ⟨none, 0, rfl, Nat.le_refl _, fun h => by omega⟩
end Lk
namespace Go.Proofs.YtbbfjlnkhenbiaaGreatDoor
open Go Go.RowKit Lk
theorem load_stry (w : World) (ad : Addr) (u : Value) (h : w.cell? ad = some u) : (loadVar 9 ad : Sem Value).run Tryz.prog w = .ok u w := by
  simp [loadVar, go_sem, h]
theorem load_inty (w : World) (ad : Addr) (u : Value) (h : w.cell? ad = some u) : (loadVar 3 ad : Sem Value).run Tryz.prog w = .ok u w := by
  simp [loadVar, go_sem, h]
theorem size_str (w : World) : (sizeOf (Tryz.prog.elem 55) : Sem Nat).run Tryz.prog w = .ok 1 w := by kernel_rfl
theorem size_try (w : World) : (sizeOf (Tryz.prog.elem 54) : Sem Nat).run Tryz.prog w = .ok 3 w := by kernel_rfl
end Go.Proofs.YtbbfjlnkhenbiaaGreatDoor
set_option linter.unusedVariables false
set_option linter.unusedSimpArgs false
namespace Go.Proofs.YtbbfjlnkhenbiaaGreatDoor
open Go Go.RowKit Lk
theorem rt24_yes (s : ByteArray) (w : World) (h1 : 4 ≤ s.size) (h2 : s.size ≤ 16) : Calls Tryz.prog 29 #[.string s] w fun e w' => e = .returned (.bool true) ∧ w' = w := by
  have i1 : (4 : Int) ≤ (s.size : Int) := by omega
  have i2 : (s.size : Int) ≤ 16 := by omega
  clear h1 h2
  go_enter Tryz.func29, Tryz.ntmps29
  go_wp2
  go_ret
  exact ⟨rfl, rfl⟩
theorem rt24_no (s : ByteArray) (w : World) (h : s.size < 4 ∨ 16 < s.size) : Calls Tryz.prog 29 #[.string s] w fun e w' => e = .returned (.bool false) ∧ w' = w := by
  by_cases h1 : s.size < 4
  · have i1 : ¬ (4 : Int) ≤ (s.size : Int) := by omega
    clear h h1
    go_enter Tryz.func29, Tryz.ntmps29
    go_wp2
    go_ret
    exact ⟨rfl, rfl⟩
  · have i1 : (4 : Int) ≤ (s.size : Int) := by omega
    have i2 : ¬ (s.size : Int) ≤ 16 := by omega
    clear h h1
    go_enter Tryz.func29, Tryz.ntmps29
    go_wp2
    go_ret
    exact ⟨rfl, rfl⟩
theorem BothG_no (k t0 t1 : List UInt8) (a b : Bool) (m n : Int) (w : World) (hk : k.length = 16) (h0 : t0.length = 16) (h1 : t1.length = 16) (h : (a && b) = false) :
    Calls Tryz.prog 32 #[.agg (ga k t0 t1 a b m n)] w fun e w' => ∃ v, e = .returned v ∧ ErV w' [if a then 1 else 0] 11 v ∧ Below w.heap.size w w' := by
  cases a <;> cases b
  · exact Both_ff k t0 t1 m n w hk h0 h1
  · exact Both_ft k t0 t1 m n w hk h0 h1
  · exact Both_tf k t0 t1 m n w hk h0 h1
  · cases h
theorem ba_ne {s t : ByteArray} (h : s ≠ t) : (s == t) = false := by
  cases hb : s == t with
  | false => rfl
  | true =>
    exfalso; apply h
    cases s; cases t
    simp only [BEq.beq] at hb
    unfold ByteArray.beq at hb
    simpa using hb
theorem yields_gd {ops : Array Oper} {o : Oper} {a0 : Act} {S : World → Prop} (hw : Region.wanted o (yielded ops a0.tmps) = true) (x : Operand) (ho : o.op = .load gdt x) (g T : Nat) (k t0 t1 : List UInt8) (a b : Bool) (m n : Int) (hx : a0.eval x = .pointer (some ⟨g, 0, none⟩)) (hB : ∀ w, S w → GB w g T k t0 t1 a b m n) (hk : k.length = 16) (h0 : t0.length = 16) (h1 : t1.length = 16) : YieldsIf Tryz.prog ops S o (.agg (ga k t0 t1 a b m n)) a0 := .inl ⟨hw, fun w hS => by
    unfold execOp
    simp only [ho, hx, Instr.loadAt, Instr.sureAddr, Sem.run_bind, Sem.run_pure, Result.andThen_ok, load_guard w g T k t0 t1 a b m n (hB w hS) hk h0 h1]⟩
theorem blk_old {w w1 : World} {g T : Nat} {l : List UInt8} (h : Blk w g T l) {r : Nat} (hG : w.grownBy w1 (some r)) (hne : r ≠ g) : Blk w1 g T l := by
  have hlt := h.lt
  unfold Blk at h ⊢
  rw [hG.block g hlt (by simp; omega)]
  exact h
/-- whoever gives whatever code: the guard then -/
theorem ent_any (K T0 T1 : List UInt8) (a b : Bool) (m n who : Int) (s : ByteArray) (hk : K.length = 16) (h0 : T0.length = 16) (h1 : T1.length = 16) (hs : s.size ≤ 140737488351232) (hm : 0 ≤ m) (hn : 0 ≤ n) (ham : a = true → m = 0) (hbn : b = true → n = 0) :
    ∃ (a' b' : Bool) (m' n' : Int) (v : Value), (∀ w, Calls Tryz.prog 31 #[.agg (ga K T0 T1 a b m n), .int .i64 who, .string s] w fun e w' => e = .returned (.tuple #[.agg (ga K T0 T1 a' b' m' n'), v]) ∧ Below w.heap.size w w') ∧
      0 ≤ m' ∧ 0 ≤ n' ∧ (a' = true → m' = 0) ∧ (b' = true → n' = 0) ∧ (¬ (who = 0 ∧ 4 ≤ s.size ∧ s.size ≤ 16 ∧ ptag K 0 s = T0) → a = false → a' = false) ∧ (¬ (who = 1 ∧ 4 ≤ s.size ∧ s.size ≤ 16 ∧ ptag K 1 s = T1) → b = false → b' = false) := by
  by_cases w0 : who = 0
  · subst w0
    by_cases l : 5 ≤ m
    · exact ⟨a, b, m, n, _, fun w => Enter_locked0 K T0 T1 a b m n s w hk h0 h1 l, hm, hn, ham, hbn, fun _ h => h, fun _ h => h⟩
    by_cases r : s.size < 4 ∨ 16 < s.size
    · exact ⟨false, b, m + 1, n, _, fun w => Enter_none0 K T0 T1 a b m n s w hk h0 h1 hm (by omega) hs r, by omega, hn, fun h => (by cases h), hbn, fun _ _ => rfl, fun _ h => h⟩
    by_cases t : ptag K 0 s = T0
    · exact ⟨true, b, 0, n, _, fun w => Enter_yes0 K T0 T1 a b m n s w hk h0 h1 hm (by omega) (by omega) (by omega) t, by omega, hn, fun _ => rfl, hbn, fun h => absurd ⟨rfl, by omega, by omega, t⟩ h, fun _ h => h⟩
    · exact ⟨false, b, m + 1, n, _, fun w => Enter_other0 K T0 T1 a b m n s w hk h0 h1 hm (by omega) (by omega) (by omega) t, by omega, hn, fun h => (by cases h), hbn, fun _ _ => rfl, fun _ h => h⟩
  by_cases w1 : who = 1
  · subst w1
    by_cases l : 5 ≤ n
    · exact ⟨a, b, m, n, _, fun w => Enter_locked1 K T0 T1 a b m n s w hk h0 h1 l, hm, hn, ham, hbn, fun _ h => h, fun _ h => h⟩
    by_cases r : s.size < 4 ∨ 16 < s.size
    · exact ⟨a, false, m, n + 1, _, fun w => Enter_none1 K T0 T1 a b m n s w hk h0 h1 hn (by omega) hs r, hm, by omega, ham, fun h => (by cases h), fun _ h => h, fun _ _ => rfl⟩
    by_cases t : ptag K 1 s = T1
    · exact ⟨a, true, m, 0, _, fun w => Enter_yes1 K T0 T1 a b m n s w hk h0 h1 hn (by omega) (by omega) (by omega) t, hm, by omega, ham, fun _ => rfl, fun _ h => h, fun h => absurd ⟨rfl, by omega, by omega, t⟩ h⟩
    · exact ⟨a, false, m, n + 1, _, fun w => Enter_other1 K T0 T1 a b m n s w hk h0 h1 hn (by omega) (by omega) (by omega) t, hm, by omega, ham, fun h => (by cases h), fun _ h => h, fun _ _ => rfl⟩
  · exact ⟨a, b, m, n, _, fun w => Enter_arg K T0 T1 a b m n who s w hk h0 h1 ⟨w0, w1⟩, hm, hn, ham, hbn, fun _ h => h, fun _ h => h⟩
set_option maxHeartbeats 25600000 in
set_option maxRecDepth 100000 in
theorem GT_f (which : Bool) (K : List UInt8) (vl : Value) (LT : Nat) (tw : Nat → Int) (tc : Nat → ByteArray) (tl : Nat → Bool) (w : World) (hE : Et w) (hk : K.length = 16) (hl : SlT w vl LT tw tc tl) (b0 : ¬ LT ≤ 60) : Calls Tryz.prog 5 #[.agg (Bs K), vl, .bool which] w fun e w' => e = .returned (.bool true) ∧ Below w.heap.size w w' := by
  obtain ⟨N, hN⟩ : ∃ N, w.heap.size = N := ⟨_, rfl⟩
  have HN := Lib.hid hN
  have HK := Lib.hid hk
  obtain ⟨At, ct, rfl, hct, hr⟩ := hl
  clear hk
  have i0 : decide ((60 : Int) < (LT : Int)) = true := by simp; omega
  clear b0 hct hr
  have hM0 : Below N w w := Below.refl _ _
  have hs0 : N ≤ w.heap.size := by omega
  have E_0 := Lib.hid (hE)
  go_enter Tryz.func5, Tryz.ntmps5
  go_wp2_with (first | ((with_reducible show wpList _ _ _ _ _ w); refine box_blk (w := w) rfl 53 _ rfl K rfl ?_; intro u0 hA0 hG0 hz0; have hL : Below w.heap.size w u0 := below_none (Below.refl _ _) (Nat.le_refl _) hG0; rw [hN] at hA0 ⊢; clear hG0 hz0; have hM1 : Below N w u0 := below_more hM0 hL hs0; have hs1 : N ≤ u0.heap.size := Nat.le_trans hs0 (hL).size; have E_1 := Lib.hid (E_0.out.below hL); clear E_0; clear hM0 hs0; have K_1 := Lib.hid (hA0); clear hL hA0) | (go_at_call 26; (with_reducible show Calls _ _ _ u0 _); refine (awake24 u0 E_1.out).mono ?_; rintro e w2 ⟨rfl, hL⟩; have hM2 : Below N w w2 := below_more hM1 hL hs1; have hs2 : N ≤ w2.heap.size := Nat.le_trans hs1 (hL).size; have E_2 := Lib.hid (E_1.out.below hL); clear E_1; have K_2 := Lib.hid (K_1.out.under hL); clear K_1; clear hM1 hs1; clear hL) | (go_at_call 26; (with_reducible show Calls _ _ _ w2 _); refine (awake24 w2 E_2.out).mono ?_; rintro e w3 ⟨rfl, hL⟩; have hM3 : Below N w w3 := below_more hM2 hL hs2; have hs3 : N ≤ w3.heap.size := Nat.le_trans hs2 (hL).size; have E_3 := Lib.hid (E_2.out.below hL); clear E_2; have K_3 := Lib.hid (K_2.out.under hL); clear K_2; clear hM2 hs2; clear hL))
  go_ret
  exact ⟨rfl, by first | exact hM3 | (rw [HN.out]; exact hM3)⟩
end Go.Proofs.YtbbfjlnkhenbiaaGreatDoor
