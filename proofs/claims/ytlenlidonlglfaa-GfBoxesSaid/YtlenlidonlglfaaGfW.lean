/- The field of 256 elements: what the code computes. -/
import Derived.Test.YtlenlidonlglfaaMem
set_option linter.unusedVariables false
set_option linter.unusedSimpArgs false
namespace Go.Proofs.Ytlenlidonlglfaa
open Go.RowKit Lk
theorem and1 (b : UInt8) : bits .and .u8 (bv b) 1 = bv (b &&& 1) := bits_and_u8 b 1
theorem and128 (b : UInt8) : bits .and .u8 (bv b) 128 = bv (b &&& 128) := bits_and_u8 b 128
theorem xor27 (b : UInt8) : bits .xor .u8 (bv b) 27 = bv (b ^^^ 27) := bits_xor_u8 b 27
theorem xor99 (b : UInt8) : bits .xor .u8 (bv b) 99 = bv (b ^^^ 99) := bits_xor_u8 b 99
theorem xor5 (b : UInt8) : bits .xor .u8 (bv b) 5 = bv (b ^^^ 5) := bits_xor_u8 b 5
theorem eq1 (b : UInt8) : (bv b == 1) = (b == 1) := bv_eq b 1
theorem ne0 (b : UInt8) : (bv b != 0) = (b != 0) := bv_ne b 0
/-- the state after k rounds -/
def mst (a b : UInt8) : Nat → UInt8 × UInt8 × UInt8
  | 0 => (0, a, b)
  | k + 1 => let s := mst a b k; (if s.2.2 &&& 1 == 1 then s.1 ^^^ s.2.1 else s.1, xt s.2.1, s.2.2 >>> 1)
theorem mst_loop (a b : UInt8) (n : Nat) : ∀ k, mulLoop n (mst a b k).1 (mst a b k).2.1 (mst a b k).2.2 = (mst a b (k + n)).1 := by
  induction n with
  | zero => intro k; rfl
  | succ n ih =>
    intro k
    have := ih (k + 1)
    simp only [mst] at this
    simp only [mulLoop]
    rw [this, show k + 1 + n = k + (n + 1) by omega]
theorem mst_end (a b : UInt8) : (mst a b 8).1 = gmul a b := (mst_loop a b 8 0).symm
set_option maxHeartbeats 400000 in
set_option maxRecDepth 100000 in
theorem mul_any (a b : UInt8) (w : World) : Calls Try.prog 9 #[.int .u8 (bv a), .int .u8 (bv b)] w fun e w' => e = .returned (.int .u8 (bv (gmul a b))) ∧ w = w' := by
  have r1 := and1
  have r2 := and128
  have r3 := xor27
  have r4 := eq1
  have r5 := ne0
  go_enter Try.func9, Try.ntmps9
  go_wp2
  go_loop [0, 1, 5, 7] (fun va vb vo i => ∃ k : Nat, k ≤ 8 ∧ i = .int .i64 k ∧ vo = .int .u8 (bv (mst a b k).1) ∧ va = .int .u8 (bv (mst a b k).2.1) ∧ vb = .int .u8 (bv (mst a b k).2.2)) (fun _ _ _ i => 8 - (intOf i).toNat)
  case atStart => exact ⟨0, by omega, rfl, rfl, rfl, rfl⟩
  case round =>
    obtain ⟨k, hk, rfl, rfl, rfl, rfl⟩ := hrel
    by_cases hlt : k < 8
    · obtain ⟨o, ho⟩ : ∃ o, (mst a b k).1 = o := ⟨_, rfl⟩
      obtain ⟨x, hx⟩ : ∃ o, (mst a b k).2.1 = o := ⟨_, rfl⟩
      obtain ⟨y, hy⟩ : ∃ o, (mst a b k).2.2 = o := ⟨_, rfl⟩
      have H0 : mst a b (k + 1) = (if y &&& 1 == 1 then o ^^^ x else o, x <<< 1 ^^^ hi x, y >>> 1) := by
        show (if (mst a b k).2.2 &&& 1 == 1 then (mst a b k).1 ^^^ (mst a b k).2.1 else (mst a b k).1, xt (mst a b k).2.1, (mst a b k).2.2 >>> 1) = _
        rw [ho, hx, hy]; rfl
      have H := Lib.hid H0
      clear H0
      rw [ho, hx, hy]
      clear ho hx hy
      rcases low01 y with h1 | h1 <;> rcases hi80 x with ⟨h2, h3⟩ | ⟨h2, h3⟩
      all_goals
        have H2 := Lib.hid (And.intro h1 h3)
        first
          | have u1 : (y &&& 1 == 1) = true := by rw [h1]; rfl
          | have u1 : (y &&& 1 == 1) = false := by rw [h1]; rfl
        first
          | have u2 : (x &&& 128 != 0) = true := by rw [h2]; rfl
          | have u2 : (x &&& 128 != 0) = false := by rw [h2]; rfl
        clear h1 h2 h3
        go_wp2
        go_round
        case rel => exact ⟨k + 1, by omega, by go_num, by rw [H.out, H2.out.1]; rfl, by rw [H.out, H2.out.2]; (try simp [bv_dbl, r3]), by rw [H.out]; (try simp [bv_half])⟩
        case measure => simp [intOf]; omega
    · have H := Lib.hid (mst_end a b)
      go_wp2
      go_ret
      obtain rfl : k = 8 := by omega
      exact ⟨congrArg (fun x => Ending.returned (.int .u8 (bv x))) H.out, rfl⟩
/-- the state after k squares -/
def ist (a : UInt8) : Nat → UInt8 × UInt8
  | 0 => (1, a)
  | k + 1 => let s := ist a k; (gmul s.1 (gmul s.2 s.2), gmul s.2 s.2)
theorem ist_loop (a : UInt8) (n : Nat) : ∀ k, invLoop n (ist a k).1 (ist a k).2 = (ist a (k + n)).1 := by
  induction n with
  | zero => intro k; rfl
  | succ n ih =>
    intro k
    have := ih (k + 1)
    simp only [ist] at this
    simp only [invLoop]
    rw [this, show k + 1 + n = k + (n + 1) by omega]
theorem ist_end (a : UInt8) : (ist a 7).1 = ginv a := (ist_loop a 7 0).symm
set_option maxHeartbeats 400000 in
set_option maxRecDepth 100000 in
theorem inv_any (a : UInt8) (w : World) : Calls Try.prog 11 #[.int .u8 (bv a)] w fun e w' => e = .returned (.int .u8 (bv (ginv a))) ∧ w = w' := by
  go_enter Try.func11, Try.ntmps11
  go_wp2
  go_loop [0, 3, 4] (fun va vo i => ∃ k : Nat, k ≤ 7 ∧ i = .int .i64 k ∧ vo = .int .u8 (bv (ist a k).1) ∧ va = .int .u8 (bv (ist a k).2)) (fun _ _ i => 7 - (intOf i).toNat)
  case atStart => exact ⟨0, by omega, rfl, rfl, rfl⟩
  case round =>
    obtain ⟨k, hk, rfl, rfl, rfl⟩ := hrel
    by_cases hlt : k < 7
    · go_wp2_with (go_at_call 9; refine (mul_any _ _ _).mono ?_; rintro e w' ⟨rfl, rfl⟩)
      go_round
      case rel => exact ⟨k + 1, by omega, by go_num, rfl, rfl⟩
      case measure => simp [intOf]; omega
    · have H := Lib.hid (ist_end a)
      go_wp2
      go_ret
      obtain rfl : k = 7 := by omega
      exact ⟨congrArg (fun x => Ending.returned (.int .u8 (bv x))) H.out, rfl⟩
theorem shl_lit (a : UInt8) (n : Nat) (h : n < 8) : IntKind.u8.wrap (bv a * (2 : Int) ^ n) = bv (a <<< UInt8.ofNat n) := by
  unfold bv
  rw [IntKind.wrap_u8, UInt8.toNat_shiftLeft, UInt8.toNat_ofNat', Nat.mod_eq_of_lt (show n < 2 ^ 8 by omega), Nat.mod_eq_of_lt h, Nat.shiftLeft_eq]
  simp
theorem shr_lit (a : UInt8) (n : Nat) (h : n < 8) : bv a / (2 : Int) ^ n = bv (a >>> UInt8.ofNat n) := by
  unfold bv
  rw [UInt8.toNat_shiftRight, UInt8.toNat_ofNat', Nat.mod_eq_of_lt (show n < 2 ^ 8 by omega), Nat.mod_eq_of_lt h, Nat.shiftRight_eq_div_pow]
  simp
theorem rot_form (a : UInt8) (n : Nat) (h0 : 0 < n) (h8 : n < 8) : bits .or .u8 (bv a * (2 : Int) ^ n % 256) (bv a / (2 : Int) ^ (8 - n)) = bv (rot a n) := by
  have h1 := shl_lit a n h8
  rw [IntKind.wrap_u8] at h1
  rw [h1, shr_lit a (8 - n) (by omega)]
  exact bv_or _ _
theorem rot2 (a : UInt8) : bits .or .u8 (bv a * (4 : Int) % (256 : Int)) (bv a / (64 : Int)) = bv (rot a 2) := rot_form a 2 (by decide) (by decide)
theorem rot3 (a : UInt8) : bits .or .u8 (bv a * (8 : Int) % (256 : Int)) (bv a / (32 : Int)) = bv (rot a 3) := rot_form a 3 (by decide) (by decide)
theorem rot4 (a : UInt8) : bits .or .u8 (bv a * (16 : Int) % (256 : Int)) (bv a / (16 : Int)) = bv (rot a 4) := rot_form a 4 (by decide) (by decide)
theorem rot6 (a : UInt8) : bits .or .u8 (bv a * (64 : Int) % (256 : Int)) (bv a / (4 : Int)) = bv (rot a 6) := rot_form a 6 (by decide) (by decide)
set_option maxHeartbeats 400000 in
set_option maxRecDepth 100000 in
theorem turn_any (a : UInt8) (n : Nat) (hn : n = 1 ∨ n = 2 ∨ n = 3 ∨ n = 4 ∨ n = 6) (w : World) : Calls Try.prog 16 #[.int .u8 (bv a), .int .i64 n] w fun e w' => e = .returned (.int .u8 (bv (rot a n))) ∧ Drawn w w' := by
  have ho := bv_or
  rcases hn with rfl | rfl | rfl | rfl | rfl
  all_goals
    go_enter Try.func16, Try.ntmps16
    go_wp2
    go_region
    go_wp2
    go_ret
  · exact ⟨congrArg (fun x => Ending.returned (.int .u8 x)) (by rw [bv_top, ho]; rfl), .one w⟩
  · exact ⟨congrArg (fun x => Ending.returned (.int .u8 x)) (rot2 a), .one w⟩
  · exact ⟨congrArg (fun x => Ending.returned (.int .u8 x)) (rot3 a), .one w⟩
  · exact ⟨congrArg (fun x => Ending.returned (.int .u8 x)) (rot4 a), .one w⟩
  · exact ⟨congrArg (fun x => Ending.returned (.int .u8 x)) (rot6 a), .one w⟩
theorem turn_1 (a : UInt8) (w : World) : Calls Try.prog 16 #[.int .u8 (bv a), .int .i64 1] w fun e w' => e = .returned (.int .u8 (bv (rot a 1))) ∧ Drawn w w' := turn_any a 1 (by decide) w
theorem turn_2 (a : UInt8) (w : World) : Calls Try.prog 16 #[.int .u8 (bv a), .int .i64 2] w fun e w' => e = .returned (.int .u8 (bv (rot a 2))) ∧ Drawn w w' := turn_any a 2 (by decide) w
theorem turn_3 (a : UInt8) (w : World) : Calls Try.prog 16 #[.int .u8 (bv a), .int .i64 3] w fun e w' => e = .returned (.int .u8 (bv (rot a 3))) ∧ Drawn w w' := turn_any a 3 (by decide) w
theorem turn_4 (a : UInt8) (w : World) : Calls Try.prog 16 #[.int .u8 (bv a), .int .i64 4] w fun e w' => e = .returned (.int .u8 (bv (rot a 4))) ∧ Drawn w w' := turn_any a 4 (by decide) w
theorem turn_6 (a : UInt8) (w : World) : Calls Try.prog 16 #[.int .u8 (bv a), .int .i64 6] w fun e w' => e = .returned (.int .u8 (bv (rot a 6))) ∧ Drawn w w' := turn_any a 6 (by decide) w
set_option maxHeartbeats 800000 in
set_option maxRecDepth 100000 in
theorem box_any (a : UInt8) (w : World) : Calls Try.prog 13 #[.int .u8 (bv a)] w fun e w' => e = .returned (.int .u8 (bv (gbox a))) ∧ Drawn w w' := by
  have x1 := xor99
  go_enter Try.func13, Try.ntmps13
  go_wp2_with (first
    | (go_at_call 11; refine (inv_any _ _).mono ?_; rintro e w' ⟨rfl, rfl⟩)
    | (go_at_call 16; (with_reducible refine (turn_1 _ _).mono ?_); rintro e w' ⟨rfl, ⟨n, rfl⟩⟩)
    | (go_at_call 16; (with_reducible refine (turn_2 _ _).mono ?_); rintro e w' ⟨rfl, ⟨n, rfl⟩⟩)
    | (go_at_call 16; (with_reducible refine (turn_3 _ _).mono ?_); rintro e w' ⟨rfl, ⟨n, rfl⟩⟩)
    | (go_at_call 16; (with_reducible refine (turn_4 _ _).mono ?_); rintro e w' ⟨rfl, ⟨n, rfl⟩⟩))
  go_ret
  exact ⟨rfl, by repeat (first | exact Drawn.refl _ | apply Drawn.step)⟩
set_option maxHeartbeats 800000 in
set_option maxRecDepth 100000 in
theorem unbox_any (a : UInt8) (w : World) : Calls Try.prog 15 #[.int .u8 (bv a)] w fun e w' => e = .returned (.int .u8 (bv (gunbox a))) ∧ Drawn w w' := by
  have x1 := xor5
  go_enter Try.func15, Try.ntmps15
  go_wp2_with (first
    | (go_at_call 11; refine (inv_any _ _).mono ?_; rintro e w' ⟨rfl, rfl⟩)
    | (go_at_call 16; (with_reducible refine (turn_1 _ _).mono ?_); rintro e w' ⟨rfl, ⟨n, rfl⟩⟩)
    | (go_at_call 16; (with_reducible refine (turn_3 _ _).mono ?_); rintro e w' ⟨rfl, ⟨n, rfl⟩⟩)
    | (go_at_call 16; (with_reducible refine (turn_6 _ _).mono ?_); rintro e w' ⟨rfl, ⟨n, rfl⟩⟩))
  go_ret
  exact ⟨rfl, by repeat (first | exact Drawn.refl _ | apply Drawn.step)⟩
end Go.Proofs.Ytlenlidonlglfaa
