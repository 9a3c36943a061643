-- PRINTED BY print.sh 35421559b90ae4d0a3588c463048766b98c2df88dd9212a6774a882060cdf62d: not written by this session
import Derived.Test.YtlenlidonlglfaaPGfProductsx0
namespace Go.Proofs.Ytlenlidonlglfaa.PGfProducts
open Go.RowKit Go.Proofs.YtlenlidonlglfaaW.PrintWords Go.Proofs.YtlenlidonlglfaaW.PrintLast Go.Proofs.YtlenlidonlglfaaW.PrintMore
attribute [local go_sem] max2_int min2_int max_two min_two max_three min_three max_four min_four   -- for this text's walks alone
set_option linter.unusedVariables false
set_option linter.unusedSimpArgs false

/-! ### gf_Mul: function 9 -/
def gf_Mul.l0 : Nat → Int → Int → Int → Int → Option (Int)
  | 0, _, _, _, _ => none
  | k + 1, x0, x1, x5, x7 => if x7 < 8 then (if (Go.bits .and .u8 x1 1) = 1 then (if (Go.bits .and .u8 x0 128) = 0 then (gf_Mul.l0 k ((x0 * 2) % 256) (x1 / 2) (Go.bits .xor .u8 x5 x0) (wrap64 (x7 + 1))) else (gf_Mul.l0 k (Go.bits .xor .u8 ((x0 * 2) % 256) 27) (x1 / 2) (Go.bits .xor .u8 x5 x0) (wrap64 (x7 + 1)))) else (if (Go.bits .and .u8 x0 128) = 0 then (gf_Mul.l0 k ((x0 * 2) % 256) (x1 / 2) x5 (wrap64 (x7 + 1))) else (gf_Mul.l0 k (Go.bits .xor .u8 ((x0 * 2) % 256) 27) (x1 / 2) x5 (wrap64 (x7 + 1))))) else (some x5)
def gf_Mul.f (k : Nat) (a0 : Int) (a1 : Int) : Option (Int) := gf_Mul.l0 k a0 a1 0 0
theorem gf_Mul.mono_l : ∀ k, (∀ y0 y1 y2 y3, LeO (gf_Mul.l0 k y0 y1 y2 y3) (gf_Mul.l0 (k + 1) y0 y1 y2 y3))
  | 0 => fun _ _ _ _ r h => by simp [gf_Mul.l0] at h
  | k + 1 => by
    have ih0 := gf_Mul.mono_l k
    · intro y0 y1 y2 y3
      unfold gf_Mul.l0
      repeat' first
      | (with_reducible exact ih0 _ _ _ _)
      | (with_reducible exact LeO.refl _)
      | (with_reducible exact LeO.none _)
      | (with_reducible refine LeO.ite ?_ ?_)
      | (with_reducible refine LeO.bind ?_ (fun _ => ?_))
      | exact ih0 _ _ _ _
      | exact LeO.none _
      | refine LeO.ite ?_ ?_
      | refine LeO.bind ?_ (fun _ => ?_)
theorem gf_Mul.mono : ∀ a0 a1 k, LeO (gf_Mul.f k a0 a1) (gf_Mul.f (k + 1) a0 a1) := by
  intro a0 a1 k
  have ih0 := gf_Mul.mono_l k
  unfold gf_Mul.f
  repeat' first
      | (with_reducible exact ih0 _ _ _ _)
      | (with_reducible exact LeO.refl _)
      | (with_reducible exact LeO.none _)
      | (with_reducible refine LeO.ite ?_ ?_)
      | (with_reducible refine LeO.bind ?_ (fun _ => ?_))
      | exact ih0 _ _ _ _
      | exact LeO.none _
      | refine LeO.ite ?_ ?_
      | refine LeO.bind ?_ (fun _ => ?_)
set_option maxHeartbeats 8000000 in
set_option maxRecDepth 100000 in
theorem gf_Mul.calls (k : Nat) (a0 : Int) (a1 : Int) (r : Int) (w : World) (h : gf_Mul.f k a0 a1 = some r) :
    Calls Try.prog 9 #[.int .u8 a0, .int .u8 a1] w fun e w' => e = .returned (.int .u8 r) ∧ Drawn0 w w' := by
  have H : (gf_Mul.l0 k a0 a1 0 0) = some r := h
  clear h
  have H' := Aside0.mk H
  clear H
  go_enter Try.func9, Try.ntmps9
  go_wp2
  go_loopg [0, 1, 5, 7] k (fun kq v0 v1 v5 v7 w' => ∃ (x0_1 : Int) (x1_1 : Int) (x5_1 : Int) (x7_1 : Int), v0 = .int .u8 x0_1 ∧ v1 = .int .u8 x1_1 ∧ v5 = .int .u8 x5_1 ∧ v7 = .int .i64 x7_1 ∧ Aside0 (gf_Mul.l0 kq x0_1 x1_1 x5_1 x7_1 = some r) ∧ Aside0 (kq ≤ k) ∧ Drawn0 w w')
  case atStart => exact ⟨(a0), (a1), (0), (0), (by first | rfl | (simp; done) | (simp [*]; done)), (by first | rfl | (simp; done) | (simp [*]; done)), (by first | rfl | (simp; done) | (simp [*]; done)), (by first | rfl | (simp; done) | (simp [*]; done)), H', ⟨Nat.le_refl _⟩, by repeat (first | exact Drawn0.refl _ | apply Drawn0.step)⟩
  case round =>
    clear H'
    try clear p2
    obtain ⟨x0_1, x1_1, x5_1, x7_1, rfl, rfl, rfl, rfl, HA, HK1, ⟨m1, rfl⟩⟩ := hrel
    cases gk with
    | zero => exact absurd HA.out (by simp [gf_Mul.l0])
    | succ k1 =>
      have H := HA.out
      clear HA
      simp only [gf_Mul.l0] at H
      by_cases c3 : x7_1 < 8
      · rw [if_pos c3] at H
        have c3b0 : decide (x7_1 < 8) = true := decide_eq_true c3
        clear c3
        by_cases c4 : (Go.bits .and .u8 x1_1 1) = 1
        · rw [if_pos c4] at H
          have c4b0 : ((Go.bits .and .u8 x1_1 1) == 1) = true := beq_iff_eq.mpr c4
          have c4b1 : ((Go.bits .and .u8 x1_1 1) != 1) = false := bne_eq_false_iff_eq.mpr c4
          clear c4
          by_cases c5 : (Go.bits .and .u8 x0_1 128) = 0
          · rw [if_pos c5] at H
            have c5b0 : ((Go.bits .and .u8 x0_1 128) == 0) = true := beq_iff_eq.mpr c5
            have c5b1 : ((Go.bits .and .u8 x0_1 128) != 0) = false := bne_eq_false_iff_eq.mpr c5
            clear c5
            have H' := Aside0.mk H
            clear H
            go_wp2
            go_roundg k1
            case measure => have := HK1.out; omega
            case rel => exact ⟨((x0_1 * 2) % 256), (x1_1 / 2), (Go.bits .xor .u8 x5_1 x0_1), (wrap64 (x7_1 + 1)), (by first | rfl | (simp; done) | (simp [*]; done)), (by first | rfl | (simp; done) | (simp [*]; done)), (by first | rfl | (simp; done) | (simp [*]; done)), (by first | rfl | (simp; done) | (simp [*]; done)), H', ⟨by have := HK1.out; omega⟩, by repeat (first | exact Drawn0.refl _ | apply Drawn0.step)⟩
          · rw [if_neg c5] at H
            have c5b0 : ((Go.bits .and .u8 x0_1 128) == 0) = false := beq_eq_false_iff_ne.mpr c5
            have c5b1 : ((Go.bits .and .u8 x0_1 128) != 0) = true := bne_iff_ne.mpr c5
            have H' := Aside0.mk H
            clear H
            go_wp2
            go_roundg k1
            case measure => have := HK1.out; omega
            case rel => exact ⟨(Go.bits .xor .u8 ((x0_1 * 2) % 256) 27), (x1_1 / 2), (Go.bits .xor .u8 x5_1 x0_1), (wrap64 (x7_1 + 1)), (by first | rfl | (simp; done) | (simp [*]; done)), (by first | rfl | (simp; done) | (simp [*]; done)), (by first | rfl | (simp; done) | (simp [*]; done)), (by first | rfl | (simp; done) | (simp [*]; done)), H', ⟨by have := HK1.out; omega⟩, by repeat (first | exact Drawn0.refl _ | apply Drawn0.step)⟩
        · rw [if_neg c4] at H
          have c4b0 : ((Go.bits .and .u8 x1_1 1) == 1) = false := beq_eq_false_iff_ne.mpr c4
          have c4b1 : ((Go.bits .and .u8 x1_1 1) != 1) = true := bne_iff_ne.mpr c4
          by_cases c6 : (Go.bits .and .u8 x0_1 128) = 0
          · rw [if_pos c6] at H
            have c6b0 : ((Go.bits .and .u8 x0_1 128) == 0) = true := beq_iff_eq.mpr c6
            have c6b1 : ((Go.bits .and .u8 x0_1 128) != 0) = false := bne_eq_false_iff_eq.mpr c6
            clear c6
            have H' := Aside0.mk H
            clear H
            go_wp2
            go_roundg k1
            case measure => have := HK1.out; omega
            case rel => exact ⟨((x0_1 * 2) % 256), (x1_1 / 2), (x5_1), (wrap64 (x7_1 + 1)), (by first | rfl | (simp; done) | (simp [*]; done)), (by first | rfl | (simp; done) | (simp [*]; done)), (by first | rfl | (simp; done) | (simp [*]; done)), (by first | rfl | (simp; done) | (simp [*]; done)), H', ⟨by have := HK1.out; omega⟩, by repeat (first | exact Drawn0.refl _ | apply Drawn0.step)⟩
          · rw [if_neg c6] at H
            have c6b0 : ((Go.bits .and .u8 x0_1 128) == 0) = false := beq_eq_false_iff_ne.mpr c6
            have c6b1 : ((Go.bits .and .u8 x0_1 128) != 0) = true := bne_iff_ne.mpr c6
            have H' := Aside0.mk H
            clear H
            go_wp2
            go_roundg k1
            case measure => have := HK1.out; omega
            case rel => exact ⟨(Go.bits .xor .u8 ((x0_1 * 2) % 256) 27), (x1_1 / 2), (x5_1), (wrap64 (x7_1 + 1)), (by first | rfl | (simp; done) | (simp [*]; done)), (by first | rfl | (simp; done) | (simp [*]; done)), (by first | rfl | (simp; done) | (simp [*]; done)), (by first | rfl | (simp; done) | (simp [*]; done)), H', ⟨by have := HK1.out; omega⟩, by repeat (first | exact Drawn0.refl _ | apply Drawn0.step)⟩
      · rw [if_neg c3] at H
        have c3b0 : decide (x7_1 < 8) = false := decide_eq_false c3
        clear c3
        obtain rfl := Option.some.inj H
        go_wp2
        go_ret
        exact ⟨by first | rfl | (simp; done) | (simp [*]; done), by repeat (first | exact Drawn0.refl _ | apply Drawn0.step)⟩

/-! ### gf_Inv: function 11 -/
def gf_Inv.l0 : Nat → Int → Int → Int → Option (Int)
  | 0, _, _, _ => none
  | k + 1, x0, x3, x4 => if x4 < 7 then ((gf_Mul.f k x0 x0).bind fun t101 => ((gf_Mul.f k x3 t101).bind fun t102 => (gf_Inv.l0 k t101 t102 (wrap64 (x4 + 1))))) else (some x3)
def gf_Inv.f (k : Nat) (a0 : Int) : Option (Int) := gf_Inv.l0 k a0 1 0
theorem gf_Inv.mono_l : ∀ k, (∀ y0 y1 y2, LeO (gf_Inv.l0 k y0 y1 y2) (gf_Inv.l0 (k + 1) y0 y1 y2))
  | 0 => fun _ _ _ r h => by simp [gf_Inv.l0] at h
  | k + 1 => by
    have ih0 := gf_Inv.mono_l k
    · intro y0 y1 y2
      unfold gf_Inv.l0
      repeat' first
      | (with_reducible exact ih0 _ _ _)
      | (with_reducible exact gf_Mul.mono _ _ _)
      | (with_reducible exact LeO.refl _)
      | (with_reducible exact LeO.none _)
      | (with_reducible refine LeO.ite ?_ ?_)
      | (with_reducible refine LeO.bind ?_ (fun _ => ?_))
      | exact ih0 _ _ _
      | exact gf_Mul.mono _ _ _
      | exact LeO.none _
      | refine LeO.ite ?_ ?_
      | refine LeO.bind ?_ (fun _ => ?_)
theorem gf_Inv.mono : ∀ a0 k, LeO (gf_Inv.f k a0) (gf_Inv.f (k + 1) a0) := by
  intro a0 k
  have ih0 := gf_Inv.mono_l k
  unfold gf_Inv.f
  repeat' first
      | (with_reducible exact ih0 _ _ _)
      | (with_reducible exact gf_Mul.mono _ _ _)
      | (with_reducible exact LeO.refl _)
      | (with_reducible exact LeO.none _)
      | (with_reducible refine LeO.ite ?_ ?_)
      | (with_reducible refine LeO.bind ?_ (fun _ => ?_))
      | exact ih0 _ _ _
      | exact gf_Mul.mono _ _ _
      | exact LeO.none _
      | refine LeO.ite ?_ ?_
      | refine LeO.bind ?_ (fun _ => ?_)
set_option maxHeartbeats 8000000 in
set_option maxRecDepth 100000 in
theorem gf_Inv.calls (k : Nat) (a0 : Int) (r : Int) (w : World) (h : gf_Inv.f k a0 = some r) :
    Calls Try.prog 11 #[.int .u8 a0] w fun e w' => e = .returned (.int .u8 r) ∧ Drawn0 w w' := by
  have H : (gf_Inv.l0 k a0 1 0) = some r := h
  clear h
  have H' := Aside0.mk H
  clear H
  go_enter Try.func11, Try.ntmps11
  go_wp2
  go_loopg [0, 3, 4] k (fun kq v0 v3 v4 w' => ∃ (x0_1 : Int) (x3_1 : Int) (x4_1 : Int), v0 = .int .u8 x0_1 ∧ v3 = .int .u8 x3_1 ∧ v4 = .int .i64 x4_1 ∧ Aside0 (gf_Inv.l0 kq x0_1 x3_1 x4_1 = some r) ∧ Aside0 (kq ≤ k) ∧ Drawn0 w w')
  case atStart => exact ⟨(a0), (1), (0), (by first | rfl | (simp; done) | (simp [*]; done)), (by first | rfl | (simp; done) | (simp [*]; done)), (by first | rfl | (simp; done) | (simp [*]; done)), H', ⟨Nat.le_refl _⟩, by repeat (first | exact Drawn0.refl _ | apply Drawn0.step)⟩
  case round =>
    clear H'
    try clear c1
    obtain ⟨x0_1, x3_1, x4_1, rfl, rfl, rfl, HA, HK1, ⟨m1, rfl⟩⟩ := hrel
    cases gk with
    | zero => exact absurd HA.out (by simp [gf_Inv.l0])
    | succ k1 =>
      have H := HA.out
      clear HA
      simp only [gf_Inv.l0] at H
      by_cases c2 : x4_1 < 7
      · rw [if_pos c2] at H
        have c2b0 : decide (x4_1 < 7) = true := decide_eq_true c2
        clear c2
        replace H := Option.bind_eq_some_iff.mp H
        obtain ⟨t101, A30, H⟩ := H
        replace H : ((gf_Mul.f k1 x3_1 t101).bind fun t102 => (gf_Inv.l0 k1 t101 t102 (wrap64 (x4_1 + 1)))) = some r := H
        have A3 := Aside0.mk A30
        clear A30
        replace H := Option.bind_eq_some_iff.mp H
        obtain ⟨t102, A40, H⟩ := H
        replace H : (gf_Inv.l0 k1 t101 t102 (wrap64 (x4_1 + 1))) = some r := H
        have A4 := Aside0.mk A40
        clear A40
        have H' := Aside0.mk H
        clear H
        go_wp2_with (first | ((with_reducible refine gate_callee (f := 9) rfl ?_); refine goesL_ (some 8) rfl rfl Try.func9 (by kernel_rfl) rfl #[.int .u8 x0_1, .int .u8 x0_1] rfl (by (try simp only [List.map_toArray, List.map_cons, List.map_nil]); first | done | rfl | (simp only [List.length_drop, List.length_take]; rfl)) ?_; (with_reducible refine (gf_Mul.calls k1 x0_1 x0_1 t101 _ A3.out).mono ?_); rintro e w' ⟨rfl, ⟨nd, rfl⟩⟩; refine ⟨_, rfl, ?_⟩) | ((with_reducible refine gate_callee (f := 9) rfl ?_); refine goesL_ (some 11) rfl rfl Try.func9 (by kernel_rfl) rfl #[.int .u8 x3_1, .int .u8 t101] rfl (by (try simp only [List.map_toArray, List.map_cons, List.map_nil]); first | done | rfl | (simp only [List.length_drop, List.length_take]; rfl)) ?_; (with_reducible refine (gf_Mul.calls k1 x3_1 t101 t102 _ A4.out).mono ?_); rintro e w' ⟨rfl, ⟨nd, rfl⟩⟩; refine ⟨_, rfl, ?_⟩))
        go_roundg k1
        case measure => have := HK1.out; omega
        case rel => exact ⟨(t101), (t102), (wrap64 (x4_1 + 1)), (by first | rfl | (simp; done) | (simp [*]; done)), (by first | rfl | (simp; done) | (simp [*]; done)), (by first | rfl | (simp; done) | (simp [*]; done)), H', ⟨by have := HK1.out; omega⟩, by repeat (first | exact Drawn0.refl _ | apply Drawn0.step)⟩
      · rw [if_neg c2] at H
        have c2b0 : decide (x4_1 < 7) = false := decide_eq_false c2
        clear c2
        obtain rfl := Option.some.inj H
        go_wp2
        go_ret
        exact ⟨by first | rfl | (simp; done) | (simp [*]; done), by repeat (first | exact Drawn0.refl _ | apply Drawn0.step)⟩

/-! ### gf_turn: function 16 -/
def gf_turn.f (a0 : Int) (a1 : Int) : Option (Int) := if 0 ≤ a1 then (if 0 ≤ (wrap64 (8 - a1)) then (some (Go.bits .or .u8 (shl .u8 a0 a1) (shr .u8 a0 (wrap64 (8 - a1))))) else (none)) else (none)
set_option maxHeartbeats 8000000 in
set_option maxRecDepth 100000 in
theorem gf_turn.calls (a0 : Int) (a1 : Int) (r : Int) (w : World) (h : gf_turn.f a0 a1 = some r) :
    Calls Try.prog 16 #[.int .u8 a0, .int .i64 a1] w fun e w' => e = .returned (.int .u8 r) ∧ Drawn0 w w' := by
  have H : (if 0 ≤ a1 then (if 0 ≤ (wrap64 (8 - a1)) then (some (Go.bits .or .u8 (shl .u8 a0 a1) (shr .u8 a0 (wrap64 (8 - a1))))) else (none)) else (none)) = some r := h
  clear h
  by_cases c3 : 0 ≤ a1
  · rw [if_pos c3] at H
    have c3b0 := eq_true c3
    have c3b1 : decide (0 ≤ a1) = true := decide_eq_true c3
    clear c3
    obtain ⟨ji4, hji4⟩ : ∃ j_ : Int, (shl .u8 a0 a1) = j_ := ⟨_, rfl⟩
    replace H : (if 0 ≤ (wrap64 (8 - a1)) then (some (Go.bits .or .u8 (ji4) (shr .u8 a0 (wrap64 (8 - a1))))) else (none)) = some r := by first | (rw [hji4] at H; exact H) | (simp only [hji4] at H ⊢; exact H)
    have hji4_ : (IntKind.u8.wrap (a0 * 2 ^ min a1.toNat 8)) = ji4 := hji4
    have hji4z : a1 ≤ 8 → (IntKind.u8.wrap (a0 * 2 ^ a1.toNat)) = ji4 := shl_small hji4
    obtain ⟨ji5, hji5⟩ : ∃ j_ : Int, (wrap64 (8 - a1)) = j_ := ⟨_, rfl⟩
    replace H : (if 0 ≤ (ji5) then (some (Go.bits .or .u8 (ji4) (shr .u8 a0 (ji5)))) else (none)) = some r := by first | (rw [hji5] at H; exact H) | (simp only [hji5] at H ⊢; exact H)
    have hji5w : (IntKind.i64.wrap (8 - a1)) = ji5 := (i64_w _).trans hji5
    by_cases c6 : 0 ≤ (ji5)
    · rw [if_pos c6] at H
      have c6b0 := eq_true c6
      have c6b1 : decide (0 ≤ (ji5)) = true := decide_eq_true c6
      clear c6
      obtain ⟨ji7, hji7⟩ : ∃ j_ : Int, (shr .u8 a0 (ji5)) = j_ := ⟨_, rfl⟩
      replace H : (some (Go.bits .or .u8 (ji4) (ji7))) = some r := by first | (rw [hji7] at H; exact H) | (simp only [hji7] at H ⊢; exact H)
      have hji7_ : (a0 / 2 ^ min (ji5).toNat 8) = ji7 := hji7
      have hji7z : (ji5) ≤ 8 → (a0 / 2 ^ (ji5).toNat) = ji7 := shr_small hji7
      obtain rfl := Option.some.inj H
      go_enter Try.func16, Try.ntmps16
      go_wp2
      repeat (go_quiet (fail); try go_wp2)
      go_ret
      exact ⟨by first | rfl | (simp; done) | (simp only [← hji4, ← hji5, ← hji7] <;> (first | rfl | simp)) | (simp [*]; done), by repeat (first | exact Drawn0.refl _ | apply Drawn0.step)⟩
    · rw [if_neg c6] at H
      exact absurd H (by simp)
  · rw [if_neg c3] at H
    exact absurd H (by simp)

/-! ### gf_Box: function 13 -/
def gf_Box.f (k : Nat) (a0 : Int) : Option (Int) := (gf_Inv.f k a0).bind fun t103 => ((gf_turn.f t103 1).bind fun t104 => ((gf_turn.f t103 2).bind fun t105 => ((gf_turn.f t103 3).bind fun t106 => ((gf_turn.f t103 4).bind fun t107 => (some (Go.bits .xor .u8 (Go.bits .xor .u8 (Go.bits .xor .u8 (Go.bits .xor .u8 (Go.bits .xor .u8 t103 t104) t105) t106) t107) 99))))))
theorem gf_Box.mono : ∀ a0 k, LeO (gf_Box.f k a0) (gf_Box.f (k + 1) a0) := by
  intro a0 k
  unfold gf_Box.f
  repeat' first
      | (with_reducible exact gf_Inv.mono _ _)
      | (with_reducible exact LeO.refl _)
      | (with_reducible exact LeO.none _)
      | (with_reducible refine LeO.ite ?_ ?_)
      | (with_reducible refine LeO.bind ?_ (fun _ => ?_))
      | exact gf_Inv.mono _ _
      | exact LeO.none _
      | refine LeO.ite ?_ ?_
      | refine LeO.bind ?_ (fun _ => ?_)
set_option maxHeartbeats 8000000 in
set_option maxRecDepth 100000 in
theorem gf_Box.calls (k : Nat) (a0 : Int) (r : Int) (w : World) (h : gf_Box.f k a0 = some r) :
    Calls Try.prog 13 #[.int .u8 a0] w fun e w' => e = .returned (.int .u8 r) ∧ Drawn0 w w' := by
  have H : ((gf_Inv.f k a0).bind fun t103 => ((gf_turn.f t103 1).bind fun t104 => ((gf_turn.f t103 2).bind fun t105 => ((gf_turn.f t103 3).bind fun t106 => ((gf_turn.f t103 4).bind fun t107 => (some (Go.bits .xor .u8 (Go.bits .xor .u8 (Go.bits .xor .u8 (Go.bits .xor .u8 (Go.bits .xor .u8 t103 t104) t105) t106) t107) 99))))))) = some r := h
  clear h
  replace H := Option.bind_eq_some_iff.mp H
  obtain ⟨t103, A20, H⟩ := H
  replace H : ((gf_turn.f t103 1).bind fun t104 => ((gf_turn.f t103 2).bind fun t105 => ((gf_turn.f t103 3).bind fun t106 => ((gf_turn.f t103 4).bind fun t107 => (some (Go.bits .xor .u8 (Go.bits .xor .u8 (Go.bits .xor .u8 (Go.bits .xor .u8 (Go.bits .xor .u8 t103 t104) t105) t106) t107) 99)))))) = some r := H
  have A2 := Aside0.mk A20
  clear A20
  replace H := Option.bind_eq_some_iff.mp H
  obtain ⟨t104, A30, H⟩ := H
  replace H : ((gf_turn.f t103 2).bind fun t105 => ((gf_turn.f t103 3).bind fun t106 => ((gf_turn.f t103 4).bind fun t107 => (some (Go.bits .xor .u8 (Go.bits .xor .u8 (Go.bits .xor .u8 (Go.bits .xor .u8 (Go.bits .xor .u8 t103 t104) t105) t106) t107) 99))))) = some r := H
  have A3 := Aside0.mk A30
  clear A30
  replace H := Option.bind_eq_some_iff.mp H
  obtain ⟨t105, A40, H⟩ := H
  replace H : ((gf_turn.f t103 3).bind fun t106 => ((gf_turn.f t103 4).bind fun t107 => (some (Go.bits .xor .u8 (Go.bits .xor .u8 (Go.bits .xor .u8 (Go.bits .xor .u8 (Go.bits .xor .u8 t103 t104) t105) t106) t107) 99)))) = some r := H
  have A4 := Aside0.mk A40
  clear A40
  replace H := Option.bind_eq_some_iff.mp H
  obtain ⟨t106, A50, H⟩ := H
  replace H : ((gf_turn.f t103 4).bind fun t107 => (some (Go.bits .xor .u8 (Go.bits .xor .u8 (Go.bits .xor .u8 (Go.bits .xor .u8 (Go.bits .xor .u8 t103 t104) t105) t106) t107) 99))) = some r := H
  have A5 := Aside0.mk A50
  clear A50
  replace H := Option.bind_eq_some_iff.mp H
  obtain ⟨t107, A60, H⟩ := H
  replace H : (some (Go.bits .xor .u8 (Go.bits .xor .u8 (Go.bits .xor .u8 (Go.bits .xor .u8 (Go.bits .xor .u8 t103 t104) t105) t106) t107) 99)) = some r := H
  have A6 := Aside0.mk A60
  clear A60
  obtain rfl := Option.some.inj H
  go_enter Try.func13, Try.ntmps13
  go_wp2_with (first | ((with_reducible refine gate_callee (f := 11) rfl ?_); refine goesL_ (some 5) rfl rfl Try.func11 (by kernel_rfl) rfl #[.int .u8 a0] rfl (by (try simp only [List.map_toArray, List.map_cons, List.map_nil]); first | done | rfl | (simp only [List.length_drop, List.length_take]; rfl)) ?_; (with_reducible refine (gf_Inv.calls k a0 t103 _ A2.out).mono ?_); rintro e w' ⟨rfl, ⟨nd, rfl⟩⟩; refine ⟨_, rfl, ?_⟩) | ((with_reducible refine gate_callee (f := 16) rfl ?_); refine goesL_ (some 8) rfl rfl Try.func16 (by kernel_rfl) rfl #[.int .u8 t103, .int .i64 1] rfl (by (try simp only [List.map_toArray, List.map_cons, List.map_nil]); first | done | rfl | (simp only [List.length_drop, List.length_take]; rfl)) ?_; (with_reducible refine (gf_turn.calls t103 1 t104 _ A3.out).mono ?_); rintro e w' ⟨rfl, ⟨nd, rfl⟩⟩; refine ⟨_, rfl, ?_⟩) | ((with_reducible refine gate_callee (f := 16) rfl ?_); refine goesL_ (some 11) rfl rfl Try.func16 (by kernel_rfl) rfl #[.int .u8 t103, .int .i64 2] rfl (by (try simp only [List.map_toArray, List.map_cons, List.map_nil]); first | done | rfl | (simp only [List.length_drop, List.length_take]; rfl)) ?_; (with_reducible refine (gf_turn.calls t103 2 t105 _ A4.out).mono ?_); rintro e w' ⟨rfl, ⟨nd, rfl⟩⟩; refine ⟨_, rfl, ?_⟩) | ((with_reducible refine gate_callee (f := 16) rfl ?_); refine goesL_ (some 14) rfl rfl Try.func16 (by kernel_rfl) rfl #[.int .u8 t103, .int .i64 3] rfl (by (try simp only [List.map_toArray, List.map_cons, List.map_nil]); first | done | rfl | (simp only [List.length_drop, List.length_take]; rfl)) ?_; (with_reducible refine (gf_turn.calls t103 3 t106 _ A5.out).mono ?_); rintro e w' ⟨rfl, ⟨nd, rfl⟩⟩; refine ⟨_, rfl, ?_⟩) | ((with_reducible refine gate_callee (f := 16) rfl ?_); refine goesL_ (some 17) rfl rfl Try.func16 (by kernel_rfl) rfl #[.int .u8 t103, .int .i64 4] rfl (by (try simp only [List.map_toArray, List.map_cons, List.map_nil]); first | done | rfl | (simp only [List.length_drop, List.length_take]; rfl)) ?_; (with_reducible refine (gf_turn.calls t103 4 t107 _ A6.out).mono ?_); rintro e w' ⟨rfl, ⟨nd, rfl⟩⟩; refine ⟨_, rfl, ?_⟩))
  go_ret
  exact ⟨by first | rfl | (simp; done) | (simp [*]; done), by repeat (first | exact Drawn0.refl _ | apply Drawn0.step)⟩

/-! ### gf_Unbox: function 15 -/
def gf_Unbox.f (k : Nat) (a0 : Int) : Option (Int) := (gf_turn.f a0 1).bind fun t108 => ((gf_turn.f a0 3).bind fun t109 => ((gf_turn.f a0 6).bind fun t110 => ((gf_Inv.f k (Go.bits .xor .u8 (Go.bits .xor .u8 (Go.bits .xor .u8 t108 t109) t110) 5)).bind fun t111 => (some t111))))
theorem gf_Unbox.mono : ∀ a0 k, LeO (gf_Unbox.f k a0) (gf_Unbox.f (k + 1) a0) := by
  intro a0 k
  unfold gf_Unbox.f
  repeat' first
      | (with_reducible exact gf_Inv.mono _ _)
      | (with_reducible exact LeO.refl _)
      | (with_reducible exact LeO.none _)
      | (with_reducible refine LeO.ite ?_ ?_)
      | (with_reducible refine LeO.bind ?_ (fun _ => ?_))
      | exact gf_Inv.mono _ _
      | exact LeO.none _
      | refine LeO.ite ?_ ?_
      | refine LeO.bind ?_ (fun _ => ?_)
set_option maxHeartbeats 8000000 in
set_option maxRecDepth 100000 in
theorem gf_Unbox.calls (k : Nat) (a0 : Int) (r : Int) (w : World) (h : gf_Unbox.f k a0 = some r) :
    Calls Try.prog 15 #[.int .u8 a0] w fun e w' => e = .returned (.int .u8 r) ∧ Drawn0 w w' := by
  have H : ((gf_turn.f a0 1).bind fun t108 => ((gf_turn.f a0 3).bind fun t109 => ((gf_turn.f a0 6).bind fun t110 => ((gf_Inv.f k (Go.bits .xor .u8 (Go.bits .xor .u8 (Go.bits .xor .u8 t108 t109) t110) 5)).bind fun t111 => (some t111))))) = some r := h
  clear h
  replace H := Option.bind_eq_some_iff.mp H
  obtain ⟨t108, A20, H⟩ := H
  replace H : ((gf_turn.f a0 3).bind fun t109 => ((gf_turn.f a0 6).bind fun t110 => ((gf_Inv.f k (Go.bits .xor .u8 (Go.bits .xor .u8 (Go.bits .xor .u8 t108 t109) t110) 5)).bind fun t111 => (some t111)))) = some r := H
  have A2 := Aside0.mk A20
  clear A20
  replace H := Option.bind_eq_some_iff.mp H
  obtain ⟨t109, A30, H⟩ := H
  replace H : ((gf_turn.f a0 6).bind fun t110 => ((gf_Inv.f k (Go.bits .xor .u8 (Go.bits .xor .u8 (Go.bits .xor .u8 t108 t109) t110) 5)).bind fun t111 => (some t111))) = some r := H
  have A3 := Aside0.mk A30
  clear A30
  replace H := Option.bind_eq_some_iff.mp H
  obtain ⟨t110, A40, H⟩ := H
  replace H : ((gf_Inv.f k (Go.bits .xor .u8 (Go.bits .xor .u8 (Go.bits .xor .u8 t108 t109) t110) 5)).bind fun t111 => (some t111)) = some r := H
  have A4 := Aside0.mk A40
  clear A40
  replace H := Option.bind_eq_some_iff.mp H
  obtain ⟨t111, A50, H⟩ := H
  replace H : (some t111) = some r := H
  have A5 := Aside0.mk A50
  clear A50
  obtain rfl := Option.some.inj H
  go_enter Try.func15, Try.ntmps15
  go_wp2_with (first | ((with_reducible refine gate_callee (f := 16) rfl ?_); refine goesL_ (some 4) rfl rfl Try.func16 (by kernel_rfl) rfl #[.int .u8 a0, .int .i64 1] rfl (by (try simp only [List.map_toArray, List.map_cons, List.map_nil]); first | done | rfl | (simp only [List.length_drop, List.length_take]; rfl)) ?_; (with_reducible refine (gf_turn.calls a0 1 t108 _ A2.out).mono ?_); rintro e w' ⟨rfl, ⟨nd, rfl⟩⟩; refine ⟨_, rfl, ?_⟩) | ((with_reducible refine gate_callee (f := 16) rfl ?_); refine goesL_ (some 6) rfl rfl Try.func16 (by kernel_rfl) rfl #[.int .u8 a0, .int .i64 3] rfl (by (try simp only [List.map_toArray, List.map_cons, List.map_nil]); first | done | rfl | (simp only [List.length_drop, List.length_take]; rfl)) ?_; (with_reducible refine (gf_turn.calls a0 3 t109 _ A3.out).mono ?_); rintro e w' ⟨rfl, ⟨nd, rfl⟩⟩; refine ⟨_, rfl, ?_⟩) | ((with_reducible refine gate_callee (f := 16) rfl ?_); refine goesL_ (some 9) rfl rfl Try.func16 (by kernel_rfl) rfl #[.int .u8 a0, .int .i64 6] rfl (by (try simp only [List.map_toArray, List.map_cons, List.map_nil]); first | done | rfl | (simp only [List.length_drop, List.length_take]; rfl)) ?_; (with_reducible refine (gf_turn.calls a0 6 t110 _ A4.out).mono ?_); rintro e w' ⟨rfl, ⟨nd, rfl⟩⟩; refine ⟨_, rfl, ?_⟩) | ((with_reducible refine gate_callee (f := 11) rfl ?_); refine goesL_ (some 12) rfl rfl Try.func11 (by kernel_rfl) rfl #[.int .u8 (Go.bits .xor .u8 (Go.bits .xor .u8 (Go.bits .xor .u8 t108 t109) t110) 5)] rfl (by (try simp only [List.map_toArray, List.map_cons, List.map_nil]); first | done | rfl | (simp only [List.length_drop, List.length_take]; rfl)) ?_; (with_reducible refine (gf_Inv.calls k (Go.bits .xor .u8 (Go.bits .xor .u8 (Go.bits .xor .u8 t108 t109) t110) 5) t111 _ A5.out).mono ?_); rintro e w' ⟨rfl, ⟨nd, rfl⟩⟩; refine ⟨_, rfl, ?_⟩))
  go_ret
  exact ⟨by first | rfl | (simp; done) | (simp [*]; done), by repeat (first | exact Drawn0.refl _ | apply Drawn0.step)⟩

/-! ### lockboxlaw01_awake: function 8 -/
def lockboxlaw01_awake.f (k : Nat)  : Option (Bool) := (gf_Mul.f k 87 131).bind fun t112 => (if t112 = 193 then ((gf_Box.f k 0).bind fun t113 => (if t113 = 99 then ((gf_Box.f k 83).bind fun t114 => (if t114 = 237 then ((gf_Unbox.f k 237).bind fun t115 => (if t115 = 83 then ((gf_Inv.f k 1).bind fun t116 => (some (t116 == 1))) else (some false))) else (some false))) else (some false))) else (some false))
theorem lockboxlaw01_awake.mono : ∀ k, LeO (lockboxlaw01_awake.f k ) (lockboxlaw01_awake.f (k + 1) ) := by
  intro  k
  unfold lockboxlaw01_awake.f
  repeat' first
      | (with_reducible exact gf_Box.mono _ _)
      | (with_reducible exact gf_Inv.mono _ _)
      | (with_reducible exact gf_Mul.mono _ _ _)
      | (with_reducible exact gf_Unbox.mono _ _)
      | (with_reducible exact LeO.refl _)
      | (with_reducible exact LeO.none _)
      | (with_reducible refine LeO.ite ?_ ?_)
      | (with_reducible refine LeO.bind ?_ (fun _ => ?_))
      | exact gf_Box.mono _ _
      | exact gf_Inv.mono _ _
      | exact gf_Mul.mono _ _ _
      | exact gf_Unbox.mono _ _
      | exact LeO.none _
      | refine LeO.ite ?_ ?_
      | refine LeO.bind ?_ (fun _ => ?_)
set_option maxHeartbeats 8000000 in
set_option maxRecDepth 100000 in
theorem lockboxlaw01_awake.calls (k : Nat)  (r : Bool) (w : World) (h : lockboxlaw01_awake.f k  = some r) :
    Calls Try.prog 8 #[] w fun e w' => e = .returned (.bool r) ∧ Drawn0 w w' := by
  have H : ((gf_Mul.f k 87 131).bind fun t112 => (if t112 = 193 then ((gf_Box.f k 0).bind fun t113 => (if t113 = 99 then ((gf_Box.f k 83).bind fun t114 => (if t114 = 237 then ((gf_Unbox.f k 237).bind fun t115 => (if t115 = 83 then ((gf_Inv.f k 1).bind fun t116 => (some (t116 == 1))) else (some false))) else (some false))) else (some false))) else (some false))) = some r := h
  clear h
  replace H := Option.bind_eq_some_iff.mp H
  obtain ⟨t112, A10, H⟩ := H
  replace H : (if t112 = 193 then ((gf_Box.f k 0).bind fun t113 => (if t113 = 99 then ((gf_Box.f k 83).bind fun t114 => (if t114 = 237 then ((gf_Unbox.f k 237).bind fun t115 => (if t115 = 83 then ((gf_Inv.f k 1).bind fun t116 => (some (t116 == 1))) else (some false))) else (some false))) else (some false))) else (some false)) = some r := H
  have A1 := Aside0.mk A10
  clear A10
  by_cases c2 : t112 = 193
  · rw [if_pos c2] at H
    have c2b0 : (t112 == 193) = true := beq_iff_eq.mpr c2
    have c2b1 : (t112 != 193) = false := bne_eq_false_iff_eq.mpr c2
    clear c2
    replace H := Option.bind_eq_some_iff.mp H
    obtain ⟨t113, A30, H⟩ := H
    replace H : (if t113 = 99 then ((gf_Box.f k 83).bind fun t114 => (if t114 = 237 then ((gf_Unbox.f k 237).bind fun t115 => (if t115 = 83 then ((gf_Inv.f k 1).bind fun t116 => (some (t116 == 1))) else (some false))) else (some false))) else (some false)) = some r := H
    have A3 := Aside0.mk A30
    clear A30
    by_cases c4 : t113 = 99
    · rw [if_pos c4] at H
      have c4b0 : (t113 == 99) = true := beq_iff_eq.mpr c4
      have c4b1 : (t113 != 99) = false := bne_eq_false_iff_eq.mpr c4
      clear c4
      replace H := Option.bind_eq_some_iff.mp H
      obtain ⟨t114, A50, H⟩ := H
      replace H : (if t114 = 237 then ((gf_Unbox.f k 237).bind fun t115 => (if t115 = 83 then ((gf_Inv.f k 1).bind fun t116 => (some (t116 == 1))) else (some false))) else (some false)) = some r := H
      have A5 := Aside0.mk A50
      clear A50
      by_cases c6 : t114 = 237
      · rw [if_pos c6] at H
        have c6b0 : (t114 == 237) = true := beq_iff_eq.mpr c6
        have c6b1 : (t114 != 237) = false := bne_eq_false_iff_eq.mpr c6
        clear c6
        replace H := Option.bind_eq_some_iff.mp H
        obtain ⟨t115, A70, H⟩ := H
        replace H : (if t115 = 83 then ((gf_Inv.f k 1).bind fun t116 => (some (t116 == 1))) else (some false)) = some r := H
        have A7 := Aside0.mk A70
        clear A70
        by_cases c8 : t115 = 83
        · rw [if_pos c8] at H
          have c8b0 : (t115 == 83) = true := beq_iff_eq.mpr c8
          have c8b1 : (t115 != 83) = false := bne_eq_false_iff_eq.mpr c8
          clear c8
          replace H := Option.bind_eq_some_iff.mp H
          obtain ⟨t116, A90, H⟩ := H
          replace H : (some (t116 == 1)) = some r := H
          have A9 := Aside0.mk A90
          clear A90
          obtain rfl := Option.some.inj H
          go_enter Try.func8, Try.ntmps8
          go_wp2_with (first | ((with_reducible refine gate_callee (f := 9) rfl ?_); refine goesL_ (some 1) rfl rfl Try.func9 (by kernel_rfl) rfl #[.int .u8 87, .int .u8 131] rfl (by (try simp only [List.map_toArray, List.map_cons, List.map_nil]); first | done | rfl | (simp only [List.length_drop, List.length_take]; rfl)) ?_; (with_reducible refine (gf_Mul.calls k 87 131 t112 _ A1.out).mono ?_); rintro e w' ⟨rfl, ⟨nd, rfl⟩⟩; refine ⟨_, rfl, ?_⟩) | (go_at_call 13; (with_reducible refine (gf_Box.calls k 0 t113 _ A3.out).mono ?_); rintro e w' ⟨rfl, ⟨nd, rfl⟩⟩) | (go_at_call 13; (with_reducible refine (gf_Box.calls k 83 t114 _ A5.out).mono ?_); rintro e w' ⟨rfl, ⟨nd, rfl⟩⟩) | (go_at_call 15; (with_reducible refine (gf_Unbox.calls k 237 t115 _ A7.out).mono ?_); rintro e w' ⟨rfl, ⟨nd, rfl⟩⟩) | (go_at_call 11; (with_reducible refine (gf_Inv.calls k 1 t116 _ A9.out).mono ?_); rintro e w' ⟨rfl, ⟨nd, rfl⟩⟩))
          go_ret
          exact ⟨by first | rfl | (simp; done) | (simp [*]; done), by repeat (first | exact Drawn0.refl _ | apply Drawn0.step)⟩
        · rw [if_neg c8] at H
          have c8b0 : (t115 == 83) = false := beq_eq_false_iff_ne.mpr c8
          have c8b1 : (t115 != 83) = true := bne_iff_ne.mpr c8
          obtain rfl := Option.some.inj H
          go_enter Try.func8, Try.ntmps8
          go_wp2_with (first | ((with_reducible refine gate_callee (f := 9) rfl ?_); refine goesL_ (some 1) rfl rfl Try.func9 (by kernel_rfl) rfl #[.int .u8 87, .int .u8 131] rfl (by (try simp only [List.map_toArray, List.map_cons, List.map_nil]); first | done | rfl | (simp only [List.length_drop, List.length_take]; rfl)) ?_; (with_reducible refine (gf_Mul.calls k 87 131 t112 _ A1.out).mono ?_); rintro e w' ⟨rfl, ⟨nd, rfl⟩⟩; refine ⟨_, rfl, ?_⟩) | (go_at_call 13; (with_reducible refine (gf_Box.calls k 0 t113 _ A3.out).mono ?_); rintro e w' ⟨rfl, ⟨nd, rfl⟩⟩) | (go_at_call 13; (with_reducible refine (gf_Box.calls k 83 t114 _ A5.out).mono ?_); rintro e w' ⟨rfl, ⟨nd, rfl⟩⟩) | (go_at_call 15; (with_reducible refine (gf_Unbox.calls k 237 t115 _ A7.out).mono ?_); rintro e w' ⟨rfl, ⟨nd, rfl⟩⟩))
          go_ret
          exact ⟨by first | rfl | (simp; done) | (simp [*]; done), by repeat (first | exact Drawn0.refl _ | apply Drawn0.step)⟩
      · rw [if_neg c6] at H
        have c6b0 : (t114 == 237) = false := beq_eq_false_iff_ne.mpr c6
        have c6b1 : (t114 != 237) = true := bne_iff_ne.mpr c6
        obtain rfl := Option.some.inj H
        go_enter Try.func8, Try.ntmps8
        go_wp2_with (first | ((with_reducible refine gate_callee (f := 9) rfl ?_); refine goesL_ (some 1) rfl rfl Try.func9 (by kernel_rfl) rfl #[.int .u8 87, .int .u8 131] rfl (by (try simp only [List.map_toArray, List.map_cons, List.map_nil]); first | done | rfl | (simp only [List.length_drop, List.length_take]; rfl)) ?_; (with_reducible refine (gf_Mul.calls k 87 131 t112 _ A1.out).mono ?_); rintro e w' ⟨rfl, ⟨nd, rfl⟩⟩; refine ⟨_, rfl, ?_⟩) | (go_at_call 13; (with_reducible refine (gf_Box.calls k 0 t113 _ A3.out).mono ?_); rintro e w' ⟨rfl, ⟨nd, rfl⟩⟩) | (go_at_call 13; (with_reducible refine (gf_Box.calls k 83 t114 _ A5.out).mono ?_); rintro e w' ⟨rfl, ⟨nd, rfl⟩⟩))
        go_ret
        exact ⟨by first | rfl | (simp; done) | (simp [*]; done), by repeat (first | exact Drawn0.refl _ | apply Drawn0.step)⟩
    · rw [if_neg c4] at H
      have c4b0 : (t113 == 99) = false := beq_eq_false_iff_ne.mpr c4
      have c4b1 : (t113 != 99) = true := bne_iff_ne.mpr c4
      obtain rfl := Option.some.inj H
      go_enter Try.func8, Try.ntmps8
      go_wp2_with (first | ((with_reducible refine gate_callee (f := 9) rfl ?_); refine goesL_ (some 1) rfl rfl Try.func9 (by kernel_rfl) rfl #[.int .u8 87, .int .u8 131] rfl (by (try simp only [List.map_toArray, List.map_cons, List.map_nil]); first | done | rfl | (simp only [List.length_drop, List.length_take]; rfl)) ?_; (with_reducible refine (gf_Mul.calls k 87 131 t112 _ A1.out).mono ?_); rintro e w' ⟨rfl, ⟨nd, rfl⟩⟩; refine ⟨_, rfl, ?_⟩) | (go_at_call 13; (with_reducible refine (gf_Box.calls k 0 t113 _ A3.out).mono ?_); rintro e w' ⟨rfl, ⟨nd, rfl⟩⟩))
      go_ret
      exact ⟨by first | rfl | (simp; done) | (simp [*]; done), by repeat (first | exact Drawn0.refl _ | apply Drawn0.step)⟩
  · rw [if_neg c2] at H
    have c2b0 : (t112 == 193) = false := beq_eq_false_iff_ne.mpr c2
    have c2b1 : (t112 != 193) = true := bne_iff_ne.mpr c2
    obtain rfl := Option.some.inj H
    go_enter Try.func8, Try.ntmps8
    go_wp2_with (first | ((with_reducible refine gate_callee (f := 9) rfl ?_); refine goesL_ (some 1) rfl rfl Try.func9 (by kernel_rfl) rfl #[.int .u8 87, .int .u8 131] rfl (by (try simp only [List.map_toArray, List.map_cons, List.map_nil]); first | done | rfl | (simp only [List.length_drop, List.length_take]; rfl)) ?_; (with_reducible refine (gf_Mul.calls k 87 131 t112 _ A1.out).mono ?_); rintro e w' ⟨rfl, ⟨nd, rfl⟩⟩; refine ⟨_, rfl, ?_⟩))
    go_ret
    exact ⟨by first | rfl | (simp; done) | (simp [*]; done), by repeat (first | exact Drawn0.refl _ | apply Drawn0.step)⟩

/-! ### lockboxref01_Mul: function 10 -/
mutual
def lockboxref01_Mul.l0 : Nat → Int → Int → Int → Int → Option (Int)
  | 0, _, _, _, _ => none
  | k + 1, x0, x1, x5, x6 => if x6 < 8 then (lockboxref01_Mul.l1 k x0 x1 x5 x6 0) else (lockboxref01_Mul.l2 k x5 14)
def lockboxref01_Mul.l1 : Nat → Int → Int → Int → Int → Int → Option (Int)
  | 0, _, _, _, _, _ => none
  | k + 1, x0, x1, x5, x6, x7 => if x7 < 8 then (if 0 ≤ (IntKind.u64.wrap (x6)) then (if (Go.bits .and .i64 (shr .i64 (wrap64 (x0)) (IntKind.u64.wrap (x6))) 1) = 1 then (if 0 ≤ (IntKind.u64.wrap (x7)) then (if (Go.bits .and .i64 (shr .i64 (wrap64 (x1)) (IntKind.u64.wrap (x7))) 1) = 1 then (if 0 ≤ (IntKind.u64.wrap (wrap64 (x6 + x7))) then (lockboxref01_Mul.l1 k x0 x1 (Go.bits .xor .i64 x5 (shl .i64 1 (IntKind.u64.wrap (wrap64 (x6 + x7))))) x6 (wrap64 (x7 + 1))) else (none)) else (lockboxref01_Mul.l1 k x0 x1 x5 x6 (wrap64 (x7 + 1)))) else (none)) else (lockboxref01_Mul.l1 k x0 x1 x5 x6 (wrap64 (x7 + 1)))) else (none)) else (lockboxref01_Mul.l0 k x0 x1 x5 (wrap64 (x6 + 1)))
def lockboxref01_Mul.l2 : Nat → Int → Int → Option (Int)
  | 0, _, _ => none
  | k + 1, x5, x8 => if x8 ≥ 8 then (if 0 ≤ (IntKind.u64.wrap (x8)) then (if (Go.bits .and .i64 (shr .i64 x5 (IntKind.u64.wrap (x8))) 1) = 1 then (if 0 ≤ (IntKind.u64.wrap (wrap64 (x8 - 8))) then (lockboxref01_Mul.l2 k (Go.bits .xor .i64 x5 (shl .i64 283 (IntKind.u64.wrap (wrap64 (x8 - 8))))) (wrap64 (x8 - 1))) else (none)) else (lockboxref01_Mul.l2 k x5 (wrap64 (x8 - 1)))) else (none)) else (some ((x5) % 256))
end
def lockboxref01_Mul.f (k : Nat) (a0 : Int) (a1 : Int) : Option (Int) := lockboxref01_Mul.l0 k a0 a1 0 0
theorem lockboxref01_Mul.mono_l : ∀ k, (∀ y0 y1 y2 y3, LeO (lockboxref01_Mul.l0 k y0 y1 y2 y3) (lockboxref01_Mul.l0 (k + 1) y0 y1 y2 y3)) ∧ (∀ y0 y1 y2 y3 y4, LeO (lockboxref01_Mul.l1 k y0 y1 y2 y3 y4) (lockboxref01_Mul.l1 (k + 1) y0 y1 y2 y3 y4)) ∧ (∀ y0 y1, LeO (lockboxref01_Mul.l2 k y0 y1) (lockboxref01_Mul.l2 (k + 1) y0 y1))
  | 0 => ⟨fun _ _ _ _ r h => by simp [lockboxref01_Mul.l0] at h, fun _ _ _ _ _ r h => by simp [lockboxref01_Mul.l1] at h, fun _ _ r h => by simp [lockboxref01_Mul.l2] at h⟩
  | k + 1 => by
    obtain ⟨ih0, ih1, ih2⟩ := lockboxref01_Mul.mono_l k
    refine ⟨?_, ?_, ?_⟩
    · intro y0 y1 y2 y3
      unfold lockboxref01_Mul.l0
      repeat' first
      | (with_reducible exact ih0 _ _ _ _)
      | (with_reducible exact ih1 _ _ _ _ _)
      | (with_reducible exact ih2 _ _)
      | (with_reducible exact LeO.refl _)
      | (with_reducible exact LeO.none _)
      | (with_reducible refine LeO.ite ?_ ?_)
      | (with_reducible refine LeO.bind ?_ (fun _ => ?_))
      | exact ih0 _ _ _ _
      | exact ih1 _ _ _ _ _
      | exact ih2 _ _
      | exact LeO.none _
      | refine LeO.ite ?_ ?_
      | refine LeO.bind ?_ (fun _ => ?_)
    · intro y0 y1 y2 y3 y4
      unfold lockboxref01_Mul.l1
      repeat' first
      | (with_reducible exact ih0 _ _ _ _)
      | (with_reducible exact ih1 _ _ _ _ _)
      | (with_reducible exact ih2 _ _)
      | (with_reducible exact LeO.refl _)
      | (with_reducible exact LeO.none _)
      | (with_reducible refine LeO.ite ?_ ?_)
      | (with_reducible refine LeO.bind ?_ (fun _ => ?_))
      | exact ih0 _ _ _ _
      | exact ih1 _ _ _ _ _
      | exact ih2 _ _
      | exact LeO.none _
      | refine LeO.ite ?_ ?_
      | refine LeO.bind ?_ (fun _ => ?_)
    · intro y0 y1
      unfold lockboxref01_Mul.l2
      repeat' first
      | (with_reducible exact ih0 _ _ _ _)
      | (with_reducible exact ih1 _ _ _ _ _)
      | (with_reducible exact ih2 _ _)
      | (with_reducible exact LeO.refl _)
      | (with_reducible exact LeO.none _)
      | (with_reducible refine LeO.ite ?_ ?_)
      | (with_reducible refine LeO.bind ?_ (fun _ => ?_))
      | exact ih0 _ _ _ _
      | exact ih1 _ _ _ _ _
      | exact ih2 _ _
      | exact LeO.none _
      | refine LeO.ite ?_ ?_
      | refine LeO.bind ?_ (fun _ => ?_)
theorem lockboxref01_Mul.mono : ∀ a0 a1 k, LeO (lockboxref01_Mul.f k a0 a1) (lockboxref01_Mul.f (k + 1) a0 a1) := by
  intro a0 a1 k
  obtain ⟨ih0, ih1, ih2⟩ := lockboxref01_Mul.mono_l k
  unfold lockboxref01_Mul.f
  repeat' first
      | (with_reducible exact ih0 _ _ _ _)
      | (with_reducible exact ih1 _ _ _ _ _)
      | (with_reducible exact ih2 _ _)
      | (with_reducible exact LeO.refl _)
      | (with_reducible exact LeO.none _)
      | (with_reducible refine LeO.ite ?_ ?_)
      | (with_reducible refine LeO.bind ?_ (fun _ => ?_))
      | exact ih0 _ _ _ _
      | exact ih1 _ _ _ _ _
      | exact ih2 _ _
      | exact LeO.none _
      | refine LeO.ite ?_ ?_
      | refine LeO.bind ?_ (fun _ => ?_)
set_option maxHeartbeats 8000000 in
set_option maxRecDepth 100000 in
theorem lockboxref01_Mul.calls (k : Nat) (a0 : Int) (a1 : Int) (r : Int) (w : World) (h : lockboxref01_Mul.f k a0 a1 = some r) :
    Calls Try.prog 10 #[.int .u8 a0, .int .u8 a1] w fun e w' => e = .returned (.int .u8 r) ∧ Drawn0 w w' := by
  have H : (lockboxref01_Mul.l0 k a0 a1 0 0) = some r := h
  clear h
  have H' := Aside0.mk H
  clear H
  go_enter Try.func10, Try.ntmps10
  go_wp2
  go_loopg [5, 6] k (fun kq v5 v6 w' => ∃ (x5_1 : Int) (x6_1 : Int), v5 = .int .i64 x5_1 ∧ v6 = .int .i64 x6_1 ∧ Aside0 (lockboxref01_Mul.l0 kq a0 a1 x5_1 x6_1 = some r) ∧ Aside0 (kq ≤ k) ∧ Drawn0 w w')
  case atStart => exact ⟨(0), (0), (by first | rfl | (simp; done) | (simp [*]; done)), (by first | rfl | (simp; done) | (simp [*]; done)), H', ⟨Nat.le_refl _⟩, by repeat (first | exact Drawn0.refl _ | apply Drawn0.step)⟩
  case round =>
    clear H'
    try clear c1
    try clear p2
    obtain ⟨x5_1, x6_1, rfl, rfl, HA, HK1, ⟨m1, rfl⟩⟩ := hrel
    cases gk with
    | zero => exact absurd HA.out (by simp [lockboxref01_Mul.l0])
    | succ k1 =>
      have H := HA.out
      clear HA
      simp only [lockboxref01_Mul.l0] at H
      by_cases c3 : x6_1 < 8
      · rw [if_pos c3] at H
        have c3b0 : decide (x6_1 < 8) = true := decide_eq_true c3
        clear c3
        have H' := Aside0.mk H
        clear H
        go_wp2
        go_loopg [5, 7] k1 (fun kq v5 v7 w' => ∃ (x5_2 : Int) (x7_2 : Int), v5 = .int .i64 x5_2 ∧ v7 = .int .i64 x7_2 ∧ Aside0 (lockboxref01_Mul.l1 kq a0 a1 x5_2 x6_1 x7_2 = some r) ∧ Aside0 (kq ≤ k1) ∧ Drawn0 w w')
        case atStart => exact ⟨(x5_1), (0), (by first | rfl | (simp; done) | (simp [*]; done)), (by first | rfl | (simp; done) | (simp [*]; done)), H', ⟨Nat.le_refl _⟩, by repeat (first | exact Drawn0.refl _ | apply Drawn0.step)⟩
        case round =>
          clear H'
          try clear c1
          try clear p2
          try clear c3
          try clear c3b0
          try clear p2
          obtain ⟨x5_2, x7_2, rfl, rfl, HA, HK2, ⟨m2, rfl⟩⟩ := hrel
          cases gk with
          | zero => exact absurd HA.out (by simp [lockboxref01_Mul.l1])
          | succ k2 =>
            have H := HA.out
            clear HA
            simp only [lockboxref01_Mul.l1] at H
            by_cases c4 : x7_2 < 8
            · rw [if_pos c4] at H
              have c4b0 : decide (x7_2 < 8) = true := decide_eq_true c4
              clear c4
              obtain ⟨ji5, hji5⟩ : ∃ j_ : Int, (IntKind.u64.wrap (x6_1)) = j_ := ⟨_, rfl⟩
              replace H : (if 0 ≤ (ji5) then (if (Go.bits .and .i64 (shr .i64 (wrap64 (a0)) (ji5)) 1) = 1 then (if 0 ≤ (IntKind.u64.wrap (x7_2)) then (if (Go.bits .and .i64 (shr .i64 (wrap64 (a1)) (IntKind.u64.wrap (x7_2))) 1) = 1 then (if 0 ≤ (IntKind.u64.wrap (wrap64 (x6_1 + x7_2))) then (lockboxref01_Mul.l1 k2 a0 a1 (Go.bits .xor .i64 x5_2 (shl .i64 1 (IntKind.u64.wrap (wrap64 (x6_1 + x7_2))))) x6_1 (wrap64 (x7_2 + 1))) else (none)) else (lockboxref01_Mul.l1 k2 a0 a1 x5_2 x6_1 (wrap64 (x7_2 + 1)))) else (none)) else (lockboxref01_Mul.l1 k2 a0 a1 x5_2 x6_1 (wrap64 (x7_2 + 1)))) else (none)) = some r := by first | (rw [hji5] at H; exact H) | (simp only [hji5] at H ⊢; exact H)
              by_cases c6 : 0 ≤ (ji5)
              · rw [if_pos c6] at H
                have c6b0 := eq_true c6
                have c6b1 : decide (0 ≤ (ji5)) = true := decide_eq_true c6
                clear c6
                obtain ⟨ji7, hji7⟩ : ∃ j_ : Int, (shr .i64 (wrap64 (a0)) (ji5)) = j_ := ⟨_, rfl⟩
                replace H : (if (Go.bits .and .i64 (ji7) 1) = 1 then (if 0 ≤ (IntKind.u64.wrap (x7_2)) then (if (Go.bits .and .i64 (shr .i64 (wrap64 (a1)) (IntKind.u64.wrap (x7_2))) 1) = 1 then (if 0 ≤ (IntKind.u64.wrap (wrap64 (x6_1 + x7_2))) then (lockboxref01_Mul.l1 k2 a0 a1 (Go.bits .xor .i64 x5_2 (shl .i64 1 (IntKind.u64.wrap (wrap64 (x6_1 + x7_2))))) x6_1 (wrap64 (x7_2 + 1))) else (none)) else (lockboxref01_Mul.l1 k2 a0 a1 x5_2 x6_1 (wrap64 (x7_2 + 1)))) else (none)) else (lockboxref01_Mul.l1 k2 a0 a1 x5_2 x6_1 (wrap64 (x7_2 + 1)))) = some r := by first | (rw [hji7] at H; exact H) | (simp only [hji7] at H ⊢; exact H)
                have hji7_ : ((wrap64 (a0)) / 2 ^ min (ji5).toNat 64) = ji7 := hji7
                have hji7z : (ji5) ≤ 64 → ((wrap64 (a0)) / 2 ^ (ji5).toNat) = ji7 := shr_small hji7
                by_cases c8 : (Go.bits .and .i64 (ji7) 1) = 1
                · rw [if_pos c8] at H
                  have c8b0 : ((Go.bits .and .i64 (ji7) 1) == 1) = true := beq_iff_eq.mpr c8
                  have c8b1 : ((Go.bits .and .i64 (ji7) 1) != 1) = false := bne_eq_false_iff_eq.mpr c8
                  clear c8
                  obtain ⟨ji9, hji9⟩ : ∃ j_ : Int, (IntKind.u64.wrap (x7_2)) = j_ := ⟨_, rfl⟩
                  replace H : (if 0 ≤ (ji9) then (if (Go.bits .and .i64 (shr .i64 (wrap64 (a1)) (ji9)) 1) = 1 then (if 0 ≤ (IntKind.u64.wrap (wrap64 (x6_1 + x7_2))) then (lockboxref01_Mul.l1 k2 a0 a1 (Go.bits .xor .i64 x5_2 (shl .i64 1 (IntKind.u64.wrap (wrap64 (x6_1 + x7_2))))) x6_1 (wrap64 (x7_2 + 1))) else (none)) else (lockboxref01_Mul.l1 k2 a0 a1 x5_2 x6_1 (wrap64 (x7_2 + 1)))) else (none)) = some r := by first | (rw [hji9] at H; exact H) | (simp only [hji9] at H ⊢; exact H)
                  by_cases c10 : 0 ≤ (ji9)
                  · rw [if_pos c10] at H
                    have c10b0 := eq_true c10
                    have c10b1 : decide (0 ≤ (ji9)) = true := decide_eq_true c10
                    clear c10
                    obtain ⟨ji11, hji11⟩ : ∃ j_ : Int, (shr .i64 (wrap64 (a1)) (ji9)) = j_ := ⟨_, rfl⟩
                    replace H : (if (Go.bits .and .i64 (ji11) 1) = 1 then (if 0 ≤ (IntKind.u64.wrap (wrap64 (x6_1 + x7_2))) then (lockboxref01_Mul.l1 k2 a0 a1 (Go.bits .xor .i64 x5_2 (shl .i64 1 (IntKind.u64.wrap (wrap64 (x6_1 + x7_2))))) x6_1 (wrap64 (x7_2 + 1))) else (none)) else (lockboxref01_Mul.l1 k2 a0 a1 x5_2 x6_1 (wrap64 (x7_2 + 1)))) = some r := by first | (rw [hji11] at H; exact H) | (simp only [hji11] at H ⊢; exact H)
                    have hji11_ : ((wrap64 (a1)) / 2 ^ min (ji9).toNat 64) = ji11 := hji11
                    have hji11z : (ji9) ≤ 64 → ((wrap64 (a1)) / 2 ^ (ji9).toNat) = ji11 := shr_small hji11
                    by_cases c12 : (Go.bits .and .i64 (ji11) 1) = 1
                    · rw [if_pos c12] at H
                      have c12b0 : ((Go.bits .and .i64 (ji11) 1) == 1) = true := beq_iff_eq.mpr c12
                      have c12b1 : ((Go.bits .and .i64 (ji11) 1) != 1) = false := bne_eq_false_iff_eq.mpr c12
                      clear c12
                      obtain ⟨ji13, hji13⟩ : ∃ j_ : Int, (IntKind.u64.wrap (wrap64 (x6_1 + x7_2))) = j_ := ⟨_, rfl⟩
                      replace H : (if 0 ≤ (ji13) then (lockboxref01_Mul.l1 k2 a0 a1 (Go.bits .xor .i64 x5_2 (shl .i64 1 (ji13))) x6_1 (wrap64 (x7_2 + 1))) else (none)) = some r := by first | (rw [hji13] at H; exact H) | (simp only [hji13] at H ⊢; exact H)
                      by_cases c14 : 0 ≤ (ji13)
                      · rw [if_pos c14] at H
                        have c14b0 := eq_true c14
                        have c14b1 : decide (0 ≤ (ji13)) = true := decide_eq_true c14
                        clear c14
                        obtain ⟨ji15, hji15⟩ : ∃ j_ : Int, (shl .i64 1 (ji13)) = j_ := ⟨_, rfl⟩
                        replace H : (lockboxref01_Mul.l1 k2 a0 a1 (Go.bits .xor .i64 x5_2 (ji15)) x6_1 (wrap64 (x7_2 + 1))) = some r := by first | (rw [hji15] at H; exact H) | (simp only [hji15] at H ⊢; exact H)
                        have hji15_ : (IntKind.i64.wrap (1 * 2 ^ min (ji13).toNat 64)) = ji15 := hji15
                        have hji15z : (ji13) ≤ 64 → (IntKind.i64.wrap (1 * 2 ^ (ji13).toNat)) = ji15 := shl_small hji15
                        have hji15u : (IntKind.i64.wrap (2 ^ min (ji13).toNat 64)) = ji15 := by have h_ := hji15_; rw [Int.one_mul] at h_; exact h_
                        have hji15v : (ji13) ≤ 64 → (IntKind.i64.wrap (2 ^ (ji13).toNat)) = ji15 := fun hle_ => by have h_ := hji15z hle_; rw [Int.one_mul] at h_; exact h_
                        have hji15y : (wrap64 (1 * 2 ^ min (ji13).toNat 64)) = ji15 := (i64_w _).symm.trans hji15_
                        have hji15x : (ji13) ≤ 64 → (wrap64 (1 * 2 ^ (ji13).toNat)) = ji15 := fun h_ => (i64_w _).symm.trans (hji15z h_)
                        have H' := Aside0.mk H
                        clear H
                        go_wp2
                        go_roundg k2
                        case measure => have := HK1.out; have := HK2.out; omega
                        case rel => exact ⟨(Go.bits .xor .i64 x5_2 (ji15)), (wrap64 (x7_2 + 1)), (by first | rfl | (simp; done) | (simp only [← hji15] <;> (first | rfl | simp)) | (simp [*]; done)), (by first | rfl | (simp; done) | (simp [*]; done)), H', ⟨by have := HK1.out; have := HK2.out; omega⟩, by repeat (first | exact Drawn0.refl _ | apply Drawn0.step)⟩
                      · rw [if_neg c14] at H
                        exact absurd H (by simp)
                    · rw [if_neg c12] at H
                      have c12b0 : ((Go.bits .and .i64 (ji11) 1) == 1) = false := beq_eq_false_iff_ne.mpr c12
                      have c12b1 : ((Go.bits .and .i64 (ji11) 1) != 1) = true := bne_iff_ne.mpr c12
                      have H' := Aside0.mk H
                      clear H
                      go_wp2
                      go_roundg k2
                      case measure => have := HK1.out; have := HK2.out; omega
                      case rel => exact ⟨(x5_2), (wrap64 (x7_2 + 1)), (by first | rfl | (simp; done) | (simp [*]; done)), (by first | rfl | (simp; done) | (simp [*]; done)), H', ⟨by have := HK1.out; have := HK2.out; omega⟩, by repeat (first | exact Drawn0.refl _ | apply Drawn0.step)⟩
                  · rw [if_neg c10] at H
                    exact absurd H (by simp)
                · rw [if_neg c8] at H
                  have c8b0 : ((Go.bits .and .i64 (ji7) 1) == 1) = false := beq_eq_false_iff_ne.mpr c8
                  have c8b1 : ((Go.bits .and .i64 (ji7) 1) != 1) = true := bne_iff_ne.mpr c8
                  have H' := Aside0.mk H
                  clear H
                  go_wp2
                  go_roundg k2
                  case measure => have := HK1.out; have := HK2.out; omega
                  case rel => exact ⟨(x5_2), (wrap64 (x7_2 + 1)), (by first | rfl | (simp; done) | (simp [*]; done)), (by first | rfl | (simp; done) | (simp [*]; done)), H', ⟨by have := HK1.out; have := HK2.out; omega⟩, by repeat (first | exact Drawn0.refl _ | apply Drawn0.step)⟩
              · rw [if_neg c6] at H
                exact absurd H (by simp)
            · rw [if_neg c4] at H
              have c4b0 : decide (x7_2 < 8) = false := decide_eq_false c4
              clear c4
              have H' := Aside0.mk H
              clear H
              go_wp2
              go_roundg k2
              case measure => have := HK1.out; have := HK2.out; omega
              case rel => exact ⟨(x5_2), (wrap64 (x6_1 + 1)), (by first | rfl | (simp; done) | (simp [*]; done)), (by first | rfl | (simp; done) | (simp [*]; done)), H', ⟨by have := HK1.out; have := HK2.out; omega⟩, by repeat (first | exact Drawn0.refl _ | apply Drawn0.step)⟩
      · rw [if_neg c3] at H
        have c3b0 : decide (x6_1 < 8) = false := decide_eq_false c3
        clear c3
        have H' := Aside0.mk H
        clear H
        go_wp2
        go_loopg [5, 8] k1 (fun kq v5 v8 w' => ∃ (x5_2 : Int) (x8_2 : Int), v5 = .int .i64 x5_2 ∧ v8 = .int .i64 x8_2 ∧ Aside0 (lockboxref01_Mul.l2 kq x5_2 x8_2 = some r) ∧ Aside0 (kq ≤ k1) ∧ Drawn0 w w')
        case atStart => exact ⟨(x5_1), (14), (by first | rfl | (simp; done) | (simp [*]; done)), (by first | rfl | (simp; done) | (simp [*]; done)), H', ⟨Nat.le_refl _⟩, by repeat (first | exact Drawn0.refl _ | apply Drawn0.step)⟩
        case round =>
          clear H'
          try clear c1
          try clear p2
          try clear c3
          try clear c3b0
          try clear c4
          try clear c4b0
          try clear c6
          try clear c6b0
          try clear c6b1
          try clear p6
          try clear c8
          try clear c8b0
          try clear c8b1
          try clear c10
          try clear c10b0
          try clear c10b1
          try clear c12
          try clear c12b0
          try clear c12b1
          try clear c14
          try clear c14b0
          try clear c14b1
          try clear p2
          obtain ⟨x5_2, x8_2, rfl, rfl, HA, HK2, ⟨m2, rfl⟩⟩ := hrel
          cases gk with
          | zero => exact absurd HA.out (by simp [lockboxref01_Mul.l2])
          | succ k2 =>
            have H := HA.out
            clear HA
            simp only [lockboxref01_Mul.l2] at H
            by_cases c16 : x8_2 ≥ 8
            · rw [if_pos c16] at H
              have c16b0 : decide (8 ≤ x8_2) = true := decide_eq_true c16
              clear c16
              obtain ⟨ji17, hji17⟩ : ∃ j_ : Int, (IntKind.u64.wrap (x8_2)) = j_ := ⟨_, rfl⟩
              replace H : (if 0 ≤ (ji17) then (if (Go.bits .and .i64 (shr .i64 x5_2 (ji17)) 1) = 1 then (if 0 ≤ (IntKind.u64.wrap (wrap64 (x8_2 - 8))) then (lockboxref01_Mul.l2 k2 (Go.bits .xor .i64 x5_2 (shl .i64 283 (IntKind.u64.wrap (wrap64 (x8_2 - 8))))) (wrap64 (x8_2 - 1))) else (none)) else (lockboxref01_Mul.l2 k2 x5_2 (wrap64 (x8_2 - 1)))) else (none)) = some r := by first | (rw [hji17] at H; exact H) | (simp only [hji17] at H ⊢; exact H)
              by_cases c18 : 0 ≤ (ji17)
              · rw [if_pos c18] at H
                have c18b0 := eq_true c18
                have c18b1 : decide (0 ≤ (ji17)) = true := decide_eq_true c18
                clear c18
                obtain ⟨ji19, hji19⟩ : ∃ j_ : Int, (shr .i64 x5_2 (ji17)) = j_ := ⟨_, rfl⟩
                replace H : (if (Go.bits .and .i64 (ji19) 1) = 1 then (if 0 ≤ (IntKind.u64.wrap (wrap64 (x8_2 - 8))) then (lockboxref01_Mul.l2 k2 (Go.bits .xor .i64 x5_2 (shl .i64 283 (IntKind.u64.wrap (wrap64 (x8_2 - 8))))) (wrap64 (x8_2 - 1))) else (none)) else (lockboxref01_Mul.l2 k2 x5_2 (wrap64 (x8_2 - 1)))) = some r := by first | (rw [hji19] at H; exact H) | (simp only [hji19] at H ⊢; exact H)
                have hji19_ : (x5_2 / 2 ^ min (ji17).toNat 64) = ji19 := hji19
                have hji19z : (ji17) ≤ 64 → (x5_2 / 2 ^ (ji17).toNat) = ji19 := shr_small hji19
                by_cases c20 : (Go.bits .and .i64 (ji19) 1) = 1
                · rw [if_pos c20] at H
                  have c20b0 : ((Go.bits .and .i64 (ji19) 1) == 1) = true := beq_iff_eq.mpr c20
                  have c20b1 : ((Go.bits .and .i64 (ji19) 1) != 1) = false := bne_eq_false_iff_eq.mpr c20
                  clear c20
                  obtain ⟨ji21, hji21⟩ : ∃ j_ : Int, (IntKind.u64.wrap (wrap64 (x8_2 - 8))) = j_ := ⟨_, rfl⟩
                  replace H : (if 0 ≤ (ji21) then (lockboxref01_Mul.l2 k2 (Go.bits .xor .i64 x5_2 (shl .i64 283 (ji21))) (wrap64 (x8_2 - 1))) else (none)) = some r := by first | (rw [hji21] at H; exact H) | (simp only [hji21] at H ⊢; exact H)
                  by_cases c22 : 0 ≤ (ji21)
                  · rw [if_pos c22] at H
                    have c22b0 := eq_true c22
                    have c22b1 : decide (0 ≤ (ji21)) = true := decide_eq_true c22
                    clear c22
                    obtain ⟨ji23, hji23⟩ : ∃ j_ : Int, (shl .i64 283 (ji21)) = j_ := ⟨_, rfl⟩
                    replace H : (lockboxref01_Mul.l2 k2 (Go.bits .xor .i64 x5_2 (ji23)) (wrap64 (x8_2 - 1))) = some r := by first | (rw [hji23] at H; exact H) | (simp only [hji23] at H ⊢; exact H)
                    have hji23_ : (IntKind.i64.wrap (283 * 2 ^ min (ji21).toNat 64)) = ji23 := hji23
                    have hji23z : (ji21) ≤ 64 → (IntKind.i64.wrap (283 * 2 ^ (ji21).toNat)) = ji23 := shl_small hji23
                    have hji23y : (wrap64 (283 * 2 ^ min (ji21).toNat 64)) = ji23 := (i64_w _).symm.trans hji23_
                    have hji23x : (ji21) ≤ 64 → (wrap64 (283 * 2 ^ (ji21).toNat)) = ji23 := fun h_ => (i64_w _).symm.trans (hji23z h_)
                    have H' := Aside0.mk H
                    clear H
                    go_wp2
                    go_roundg k2
                    case measure => have := HK1.out; have := HK2.out; omega
                    case rel => exact ⟨(Go.bits .xor .i64 x5_2 (ji23)), (wrap64 (x8_2 - 1)), (by first | rfl | (simp; done) | (simp only [← hji23] <;> (first | rfl | simp)) | (simp [*]; done)), (by first | rfl | (simp; done) | (simp [*]; done)), H', ⟨by have := HK1.out; have := HK2.out; omega⟩, by repeat (first | exact Drawn0.refl _ | apply Drawn0.step)⟩
                  · rw [if_neg c22] at H
                    exact absurd H (by simp)
                · rw [if_neg c20] at H
                  have c20b0 : ((Go.bits .and .i64 (ji19) 1) == 1) = false := beq_eq_false_iff_ne.mpr c20
                  have c20b1 : ((Go.bits .and .i64 (ji19) 1) != 1) = true := bne_iff_ne.mpr c20
                  have H' := Aside0.mk H
                  clear H
                  go_wp2
                  go_roundg k2
                  case measure => have := HK1.out; have := HK2.out; omega
                  case rel => exact ⟨(x5_2), (wrap64 (x8_2 - 1)), (by first | rfl | (simp; done) | (simp [*]; done)), (by first | rfl | (simp; done) | (simp [*]; done)), H', ⟨by have := HK1.out; have := HK2.out; omega⟩, by repeat (first | exact Drawn0.refl _ | apply Drawn0.step)⟩
              · rw [if_neg c18] at H
                exact absurd H (by simp)
            · rw [if_neg c16] at H
              have c16b0 : decide (8 ≤ x8_2) = false := decide_eq_false c16
              clear c16
              obtain rfl := Option.some.inj H
              go_wp2
              go_ret
              exact ⟨by first | rfl | (simp; done) | (simp [*]; done), by repeat (first | exact Drawn0.refl _ | apply Drawn0.step)⟩

/-! ### lockboxlaw01_GfProducts: function 3 -/
def lockboxlaw01_GfProducts.f (k : Nat) (a0 : Int) (a1 : Int) : Option (Bool) := (lockboxlaw01_awake.f k).bind fun t117 => (if t117 = true then ((gf_Mul.f k a0 a1).bind fun t118 => ((lockboxref01_Mul.f k a0 a1).bind fun t119 => (some (t118 == t119)))) else (some false))
theorem lockboxlaw01_GfProducts.mono : ∀ a0 a1 k, LeO (lockboxlaw01_GfProducts.f k a0 a1) (lockboxlaw01_GfProducts.f (k + 1) a0 a1) := by
  intro a0 a1 k
  unfold lockboxlaw01_GfProducts.f
  repeat' first
      | (with_reducible exact gf_Mul.mono _ _ _)
      | (with_reducible exact lockboxlaw01_awake.mono _)
      | (with_reducible exact lockboxref01_Mul.mono _ _ _)
      | (with_reducible exact LeO.refl _)
      | (with_reducible exact LeO.none _)
      | (with_reducible refine LeO.ite ?_ ?_)
      | (with_reducible refine LeO.bind ?_ (fun _ => ?_))
      | exact gf_Mul.mono _ _ _
      | exact lockboxlaw01_awake.mono _
      | exact lockboxref01_Mul.mono _ _ _
      | exact LeO.none _
      | refine LeO.ite ?_ ?_
      | refine LeO.bind ?_ (fun _ => ?_)
set_option maxHeartbeats 8000000 in
set_option maxRecDepth 100000 in
theorem lockboxlaw01_GfProducts.calls (k : Nat) (a0 : Int) (a1 : Int) (r : Bool) (w : World) (h : lockboxlaw01_GfProducts.f k a0 a1 = some r) :
    Calls Try.prog 3 #[.int .u8 a0, .int .u8 a1] w fun e w' => e = .returned (.bool r) ∧ Drawn0 w w' := by
  have H : ((lockboxlaw01_awake.f k).bind fun t117 => (if t117 = true then ((gf_Mul.f k a0 a1).bind fun t118 => ((lockboxref01_Mul.f k a0 a1).bind fun t119 => (some (t118 == t119)))) else (some false))) = some r := h
  clear h
  replace H := Option.bind_eq_some_iff.mp H
  obtain ⟨t117, A30, H⟩ := H
  replace H : (if t117 = true then ((gf_Mul.f k a0 a1).bind fun t118 => ((lockboxref01_Mul.f k a0 a1).bind fun t119 => (some (t118 == t119)))) else (some false)) = some r := H
  have A3 := Aside0.mk A30
  clear A30
  by_cases c4 : t117 = true
  · subst c4
    have H1 : ((gf_Mul.f k a0 a1).bind fun t118 => ((lockboxref01_Mul.f k a0 a1).bind fun t119 => (some (t118 == t119)))) = some r := by rw [if_pos rfl] at H; exact H
    clear H
    have H := H1
    clear H1
    replace H := Option.bind_eq_some_iff.mp H
    obtain ⟨t118, A50, H⟩ := H
    replace H : ((lockboxref01_Mul.f k a0 a1).bind fun t119 => (some (t118 == t119))) = some r := H
    have A5 := Aside0.mk A50
    clear A50
    replace H := Option.bind_eq_some_iff.mp H
    obtain ⟨t119, A60, H⟩ := H
    replace H : (some (t118 == t119)) = some r := H
    have A6 := Aside0.mk A60
    clear A60
    obtain rfl := Option.some.inj H
    go_enter Try.func3, Try.ntmps3
    go_wp2_with (first | ((with_reducible refine gate_callee (f := 8) rfl ?_); refine goesL_ (some 5) rfl rfl Try.func8 (by kernel_rfl) rfl #[] rfl (by (try simp only [List.map_toArray, List.map_cons, List.map_nil]); first | done | rfl | (simp only [List.length_drop, List.length_take]; rfl)) ?_; (with_reducible refine (lockboxlaw01_awake.calls k  true _ A3.out).mono ?_); rintro e w' ⟨rfl, ⟨nd, rfl⟩⟩; refine ⟨_, rfl, ?_⟩) | (go_at_call 9; (with_reducible refine (gf_Mul.calls k a0 a1 t118 _ A5.out).mono ?_); rintro e w' ⟨rfl, ⟨nd, rfl⟩⟩) | (go_at_call 10; (with_reducible refine (lockboxref01_Mul.calls k a0 a1 t119 _ A6.out).mono ?_); rintro e w' ⟨rfl, ⟨nd, rfl⟩⟩))
    go_ret
    exact ⟨by first | rfl | (simp; done) | (simp [*]; done), by repeat (first | exact Drawn0.refl _ | apply Drawn0.step)⟩
  · replace c4 := Bool.eq_false_iff.mpr c4
    subst c4
    have H1 : (some false) = some r := by rw [if_neg (show ¬ (false = true) by decide)] at H; exact H
    clear H
    have H := H1
    clear H1
    obtain rfl := Option.some.inj H
    go_enter Try.func3, Try.ntmps3
    go_wp2_with (first | ((with_reducible refine gate_callee (f := 8) rfl ?_); refine goesL_ (some 5) rfl rfl Try.func8 (by kernel_rfl) rfl #[] rfl (by (try simp only [List.map_toArray, List.map_cons, List.map_nil]); first | done | rfl | (simp only [List.length_drop, List.length_take]; rfl)) ?_; (with_reducible refine (lockboxlaw01_awake.calls k  false _ A3.out).mono ?_); rintro e w' ⟨rfl, ⟨nd, rfl⟩⟩; refine ⟨_, rfl, ?_⟩))
    go_ret
    exact ⟨by first | rfl | (simp; done) | (simp [*]; done), by repeat (first | exact Drawn0.refl _ | apply Drawn0.step)⟩

/-- THE ONE PURE STATEMENT of lockboxlaw01_GfProducts: yours. -/
def lockboxlaw01_GfProducts.Pure : Prop := ∀ (a0 : Int) (a1 : Int), (Lit.int .u8 a0).wf = true → (Lit.int .u8 a1).wf = true → ∃ k, lockboxlaw01_GfProducts.f k a0 a1 = some true
theorem lockboxlaw01_GfProducts.walk (P : lockboxlaw01_GfProducts.Pure) (a0 : Int) (a1 : Int) (w : World) (w0 : (Lit.int .u8 a0).wf = true) (w1 : (Lit.int .u8 a1).wf = true) :
    Calls Try.prog 3 #[.int .u8 a0, .int .u8 a1] w fun e w' => e = .returned (.bool true) ∧ Below w.heap.size w w' := by
  obtain ⟨k, h⟩ := P a0 a1 w0 w1
  refine (lockboxlaw01_GfProducts.calls k a0 a1 true w h).mono ?_
  rintro e w' ⟨rfl, hd⟩
  exact ⟨rfl, hd.below⟩

end Go.Proofs.Ytlenlidonlglfaa.PGfProducts
