/- DES: a round's function. -/
import Derived.Test.YtjbdhnmkeaogcaaDesM
set_option linter.unusedVariables false
set_option linter.unusedSimpArgs false
namespace Lk
open Go
def wide (h : Nat) : Nat := ((h &&& 1) * 2 ^ 33 ||| h * 2) ||| h / 2 ^ 31
def sixOf (h k i : Nat) : Nat := (wide h / 2 ^ (28 - 4 * i) &&& 63) ^^^ (k / 2 ^ (42 - 6 * i) &&& 63)
def mixTo (h k : Nat) : Nat → Nat
  | 0 => 0
  | i + 1 => mixTo h k i * 16 ||| dbox i (sixOf h k i)
def dmix (h k : Nat) : Nat := perm (mixTo h k 8) 32 tabP
theorem sixOf_lt (h k i : Nat) : sixOf h k i < 64 := Nat.xor_lt_two_pow (n := 6) (Nat.and_lt_two_pow _ (by decide)) (Nat.and_lt_two_pow _ (by decide))
theorem getD_of_mem {α} (l : List α) (i : Nat) (d : α) : l.getD i d ∈ l ∨ l.getD i d = d := by
  rw [List.getD_eq_getElem?_getD]
  cases h : l[i]? with
  | none => exact .inr rfl
  | some a => exact .inl (List.mem_of_getElem? h)
theorem dbox_lt (i s : Nat) : dbox i s < 16 := by
  have h : ∀ l ∈ boxTab, ∀ x ∈ l, x < 16 := by decide +kernel
  unfold dbox
  rcases getD_of_mem boxTab i [] with h1 | h1
  · rcases getD_of_mem (boxTab.getD i []) (sixIx s) 0 with h2 | h2
    · exact h _ h1 _ h2
    · rw [h2]; decide
  · rw [h1]; simp
theorem mixTo_lt (h k i : Nat) : mixTo h k i < 16 ^ i := by
  induction i with
  | zero => simp [mixTo]
  | succ i ih =>
    have := dbox_lt i (sixOf h k i)
    have e : mixTo h k i * 16 ||| dbox i (sixOf h k i) = mixTo h k i * 16 + dbox i (sixOf h k i) := by
      have := Nat.two_pow_add_eq_or_of_lt (i := 4) (by simpa using this) (mixTo h k i)
      rw [Nat.mul_comm _ 16]
      simpa using this.symm
    show mixTo h k i * 16 ||| dbox i (sixOf h k i) < _
    rw [e, Nat.pow_succ]
    omega
theorem wide_form (h : Nat) (hh : h < 2 ^ 32) : bits BinOp.or IntKind.u64 (bits BinOp.or IntKind.u64 (IntKind.u64.wrap (bits BinOp.and IntKind.u64 (nv h) 1 * (8589934592 : Int))) (IntKind.u64.wrap (nv h * (2 : Int)))) (nv h / (2147483648 : Int)) = nv (wide h) := by
  unfold nv wide
  have e1 : (1 : Int) = ((1 : Nat) : Int) := rfl
  have h1 : h &&& 1 < 2 := by rw [Nat.and_one_is_mod]; omega
  have e2 : ((h &&& 1 : Nat) : Int) * (8589934592 : Int) = (((h &&& 1) * 2 ^ 33 : Nat) : Int) := by simp
  have e3 : (h : Int) * (2 : Int) = ((h * 2 : Nat) : Int) := by simp
  have e4 : (h : Int) / (2147483648 : Int) = ((h / 2 ^ 31 : Nat) : Int) := by simp
  rw [e1, bits_and_u64 _ _ (by omega) (by decide), e2, e3, e4, wrap_u64 _ (by omega), wrap_u64 _ (by omega), bits_or_u64 _ _ (by omega) (by omega), bits_or_u64 _ _ (Nat.or_lt_two_pow (by omega) (by omega)) (by omega)]
theorem six_form (W k n : Nat) (hW : W < 2 ^ 64) (hk : k < 2 ^ 64) : bits BinOp.xor IntKind.u64 (bits BinOp.and IntKind.u64 (nv W / (2 : Int) ^ (28 - 4 * n)) 63) (bits BinOp.and IntKind.u64 (nv k / (2 : Int) ^ (42 - 6 * n)) 63) = nv ((W / 2 ^ (28 - 4 * n) &&& 63) ^^^ (k / 2 ^ (42 - 6 * n) &&& 63)) := by
  unfold nv
  have e1 : ((W : Int) / (2 : Int) ^ (28 - 4 * n)) = ((W / 2 ^ (28 - 4 * n) : Nat) : Int) := by simp
  have e2 : ((k : Int) / (2 : Int) ^ (42 - 6 * n)) = ((k / 2 ^ (42 - 6 * n) : Nat) : Int) := by simp
  have e3 : (63 : Int) = ((63 : Nat) : Int) := rfl
  have h1 : W / 2 ^ (28 - 4 * n) < 2 ^ 64 := Nat.lt_of_le_of_lt (Nat.div_le_self _ _) hW
  have h2 : k / 2 ^ (42 - 6 * n) < 2 ^ 64 := Nat.lt_of_le_of_lt (Nat.div_le_self _ _) hk
  have h3 : ∀ x : Nat, x &&& 63 < 2 ^ 64 := fun x => Nat.and_lt_two_pow _ (by decide)
  rw [e1, e2, e3, bits_and_u64 _ _ h1 (by decide), bits_and_u64 _ _ h2 (by decide), bits_xor_u64 _ _ (h3 _) (h3 _)]
theorem mix_step (o d : Nat) (ho : o < 2 ^ 60) (hd : d < 16) : bits BinOp.or IntKind.u64 (IntKind.u64.wrap (nv o * (16 : Int))) (nv d) = nv (o * 16 ||| d) := by
  unfold nv
  have e1 : (o : Int) * (16 : Int) = ((o * 16 : Nat) : Int) := by simp
  rw [e1, wrap_u64 _ (by omega), bits_or_u64 _ _ (by omega) (by omega)]
theorem wide_lt (h : Nat) (hh : h < 2 ^ 32) : wide h < 2 ^ 64 := by
  have h1 : h &&& 1 < 2 := by rw [Nat.and_one_is_mod]; omega
  exact Nat.or_lt_two_pow (Nat.or_lt_two_pow (by omega) (by omega)) (by omega)
end Lk
namespace Go.Proofs.Ytjbdhnmkeaogcaa
open Go.RowKit Lk
set_option maxHeartbeats 800000 in
set_option maxRecDepth 100000 in
theorem mix_any (h k : Nat) (w : World) (hh : h < 2 ^ 32) (hk : k < 2 ^ 48) : Calls Try.prog 53 #[.int .u64 (nv h), .int .u64 (nv k)] w fun e w' => e = .returned (.int .u64 (nv (dmix h k))) ∧ Drawn w w' := by
  have hw := wide_form h hh
  have hwl := wide_lt h hh
  obtain ⟨W, eW⟩ : ∃ W, wide h = W := ⟨_, rfl⟩
  rw [eW] at hw hwl
  have EW := Lib.hid eW
  clear eW
  go_enter Try.func53, Try.ntmps53
  go_wp2
  clear hw
  go_loopw [5, 18] (fun o i wr => ∃ n : Nat, n ≤ 8 ∧ i = .int .i64 n ∧ o = .int .u64 (nv (mixTo h k n)) ∧ Drawn w wr) (fun _ i _ => 8 - (intOf i).toNat)
  case atStart => exact ⟨0, by omega, rfl, rfl, Drawn.refl _⟩
  case round =>
    obtain ⟨n, hn, rfl, rfl, hD⟩ := hrel
    have HD := Lib.hid hD
    clear hD
    by_cases hlt : n < 8
    · obtain ⟨o, ho⟩ : ∃ o, mixTo h k n = o := ⟨_, rfl⟩
      have HO := Lib.hid ho
      rw [ho]
      clear ho
      have hsx := six_form W k n hwl (Nat.lt_trans hk (by decide))
      obtain ⟨sx, esx⟩ : ∃ sx, ((W / 2 ^ (28 - 4 * n) &&& 63) ^^^ (k / 2 ^ (42 - 6 * n) &&& 63)) = sx := ⟨_, rfl⟩
      rw [esx] at hsx
      have hsl : sx < 64 := by rw [← esx]; exact Nat.xor_lt_two_pow (n := 6) (Nat.and_lt_two_pow _ (by decide)) (Nat.and_lt_two_pow _ (by decide))
      have ESX := Lib.hid esx
      have HL := Lib.hid hlt
      have HSL := Lib.hid hsl
      clear esx hsl
      go_wp2
      go_region
      go_wp2_with (go_at_call 73; refine (dbox_any n sx _ HL.out HSL.out).mono ?_; rintro e w' ⟨rfl, rfl⟩)
      go_roundw
      case rel =>
        refine ⟨n + 1, by have := HL.out; omega, by go_num, ?_, HD.out.drew⟩
        have hob := mixTo_lt h k n
        rw [HO.out] at hob
        have h16 : o < 2 ^ 60 := Nat.lt_of_lt_of_le hob (by have : 16 ^ n ≤ 16 ^ 8 := Nat.pow_le_pow_right (by decide) hn; omega)
        show _ = Value.int .u64 (nv (mixTo h k n * 16 ||| dbox n (sixOf h k n)))
        have e : sixOf h k n = sx := by unfold sixOf; rw [EW.out, ESX.out]
        rw [HO.out, e]
        exact congrArg (Value.int .u64) (mix_step o _ h16 (dbox_lt _ _))
      case measure => have : n < 8 := HL.out; simp [intOf]; omega
    · have HE := Lib.hid (show n = 8 by omega)
      have hm := mixTo_lt h k n
      obtain ⟨o, ho⟩ : ∃ o, mixTo h k n = o := ⟨_, rfl⟩
      rw [ho] at hm ⊢
      have hol : o < 2 ^ 64 := by rw [HE.out] at hm; exact Nat.lt_trans hm (by decide)
      have HO := Lib.hid ho
      clear ho hm
      go_wp2_with (go_at_call 51; refine (permute_P o _ hol).mono ?_; rintro e w' ⟨rfl, hD2⟩)
      go_ret
      refine ⟨?_, by obtain ⟨m, rfl⟩ := hD2; exact HD.out.step m⟩
      unfold dmix
      have := HO.out
      rw [HE.out] at this
      rw [this]
      rfl
end Go.Proofs.Ytjbdhnmkeaogcaa
