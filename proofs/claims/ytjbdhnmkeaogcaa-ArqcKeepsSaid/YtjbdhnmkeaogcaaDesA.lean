/- DES: bits moved as tables say. -/
import Derived.Test.YtjbdhnmkeaogcaaOwn
import Derived.IntWalk
set_option linter.unusedVariables false
set_option linter.unusedSimpArgs false
namespace Lk
open Go
/-- a number as the model holds it -/
def nv (n : Nat) : Int := n
/-- the text tells these numbers, two digits each -/
def Tells (s : ByteArray) (tab : List Nat) : Prop :=
  s.size = 2 * tab.length ∧ ∀ k, k < tab.length → ∀ j, j = 2 * k → (∀ h, (s[j]'h).toNat = 48 + tab.getD k 0 / 10) ∧ (∀ h, (s[j + 1]'h).toNat = 48 + tab.getD k 0 % 10) ∧ tab.getD k 0 < 100
/-- a bit of a number, the first one being bit 1 of so many -/
def bitOf (x size n : Nat) : Nat := x / 2 ^ (size - n) % 2
def permTo (x size : Nat) (tab : List Nat) (k : Nat) : Nat := (tab.take k).foldl (fun o n => 2 * o + bitOf x size n) 0
def perm (x size : Nat) (tab : List Nat) : Nat := permTo x size tab tab.length
theorem permTo_succ (x size : Nat) (tab : List Nat) (k : Nat) (h : k < tab.length) : permTo x size tab (k + 1) = 2 * permTo x size tab k + bitOf x size (tab.getD k 0) := by
  unfold permTo
  rw [List.take_succ_eq_append_getElem h, List.foldl_append]
  simp [h]
theorem permTo_lt (x size : Nat) (tab : List Nat) (k : Nat) : permTo x size tab k < 2 ^ k := by
  induction k with
  | zero => simp [permTo]
  | succ k ih =>
    by_cases h : k < tab.length
    · rw [permTo_succ _ _ _ _ h]
      have : bitOf x size (tab.getD k 0) < 2 := Nat.mod_lt _ (by decide)
      rw [Nat.pow_succ]
      omega
    · have e : permTo x size tab (k + 1) = permTo x size tab k := by
        unfold permTo
        rw [List.take_of_length_le (by omega), List.take_of_length_le (by omega)]
      rw [e, Nat.pow_succ]
      omega
theorem or_bit (o b : Nat) (h : b < 2) : 2 * o ||| b = 2 * o + b := by
  have := Nat.two_pow_add_eq_or_of_lt (i := 1) (by simpa using h) o
  simpa using this.symm
theorem perm_step (o x size a : Nat) (ho : o < 2 ^ 63) (hx : x < 2 ^ 64) :
    Go.bits .or .u64 (Go.IntKind.u64.wrap (nv o * (2 : Int))) (Go.bits .and .u64 (nv x / (2 : Int) ^ (size - (a / 10 * 10 + a % 10))) 1) = nv (2 * o + bitOf x size a) := by
  unfold nv bitOf
  have e1 : ((o : Int) * (2 : Int)) = ((2 * o : Nat) : Int) := by omega
  have e2 : a / 10 * 10 + a % 10 = a := by omega
  have hd : x / 2 ^ (size - a) < 2 ^ 64 := Nat.lt_of_le_of_lt (Nat.div_le_self _ _) hx
  have e3 : ((x : Int) / (2 : Int) ^ (size - a)) = ((x / 2 ^ (size - a) : Nat) : Int) := by simp
  have e4 : (1 : Int) = ((1 : Nat) : Int) := rfl
  rw [e1, e2, e3, e4, wrap_u64 _ (by omega), bits_and_u64 _ _ hd (by decide), bits_or_u64 _ _ (by omega) (by rw [Nat.and_one_is_mod]; omega), Nat.and_one_is_mod, or_bit _ _ (Nat.mod_lt _ (by decide))]
/-- a table of 64 bits undone, for its first k numbers -/
def unpTo (x : Nat) (tab : List Nat) : Nat → Nat
  | 0 => 0
  | k + 1 => unpTo x tab k ||| (x / 2 ^ (63 - k) % 2) * 2 ^ (64 - tab.getD k 0)
def unperm (x : Nat) (tab : List Nat) : Nat := unpTo x tab tab.length
theorem bit_shl_lt (b n : Nat) (hb : b < 2) (hn : n < 64) : b * 2 ^ n < 2 ^ 64 := by
  have h1 : b * 2 ^ n ≤ 1 * 2 ^ n := Nat.mul_le_mul_right _ (by omega)
  have h2 : 2 ^ n ≤ 2 ^ 63 := Nat.pow_le_pow_right (by decide) (by omega)
  omega
theorem unpTo_lt (x : Nat) (tab : List Nat) (k : Nat) (h : ∀ j, j < k → 1 ≤ tab.getD j 0) : unpTo x tab k < 2 ^ 64 := by
  induction k with
  | zero => exact (by decide : (0 : Nat) < 2 ^ 64)
  | succ k ih =>
    have h0 := h k (by omega)
    exact Nat.or_lt_two_pow (ih fun j hj => h j (by omega)) (bit_shl_lt _ _ (Nat.mod_lt _ (by decide)) (by omega))
theorem unp_step (o x k a : Nat) (ho : o < 2 ^ 64) (hx : x < 2 ^ 64) (hk : k ≤ 63) (h1 : 1 ≤ a) (h2 : a ≤ 64) :
    Go.bits .or .u64 (nv o) (Go.IntKind.u64.wrap (Go.bits .and .u64 (nv x / (2 : Int) ^ (63 - k)) 1 * (2 : Int) ^ (64 - (a / 10 * 10 + a % 10)))) = nv (o ||| (x / 2 ^ (63 - k) % 2) * 2 ^ (64 - a)) := by
  unfold nv
  have e2 : a / 10 * 10 + a % 10 = a := by omega
  have hd : x / 2 ^ (63 - k) < 2 ^ 64 := Nat.lt_of_le_of_lt (Nat.div_le_self _ _) hx
  have e3 : ((x : Int) / (2 : Int) ^ (63 - k)) = ((x / 2 ^ (63 - k) : Nat) : Int) := by simp
  have e4 : (1 : Int) = ((1 : Nat) : Int) := rfl
  have hb := bit_shl_lt (x / 2 ^ (63 - k) % 2) (64 - a) (Nat.mod_lt _ (by decide)) (by omega)
  have e5 : (((x / 2 ^ (63 - k) % 2 : Nat) : Int) * (2 : Int) ^ (64 - a)) = (((x / 2 ^ (63 - k) % 2) * 2 ^ (64 - a) : Nat) : Int) := by simp
  rw [e2, e3, e4, bits_and_u64 _ _ hd (by decide), Nat.and_one_is_mod, e5, wrap_u64 _ hb, bits_or_u64 _ _ ho hb]
end Lk
namespace Go.Proofs.Ytjbdhnmkeaogcaa
open Go.RowKit Lk
set_option maxHeartbeats 800000 in
set_option maxRecDepth 100000 in
theorem permute_any (x size : Nat) (s : ByteArray) (tab : List Nat) (w : World) (hx : x < 2 ^ 64) (hs : Tells s tab) (hl : tab.length ≤ 64) (hn : ∀ k, k < tab.length → tab.getD k 0 ≤ size) (hsz : size ≤ 64) :
    Calls Try.prog 51 #[.int .u64 (nv x), .int .i64 size, .string s] w fun e w' => e = .returned (.int .u64 (nv (perm x size tab))) ∧ Drawn w w' := by
  have hss : s.size = 2 * tab.length := hs.1
  have HS := Lib.hid hs
  have HN := Lib.hid hn
  clear hs hn
  obtain ⟨m, hm⟩ : ∃ m, tab.length = m := ⟨_, rfl⟩
  rw [hm] at hss hl
  have HM := Lib.hid hm
  have hs2 : s.size ≤ 128 := by omega
  have HSS := Lib.hid hss
  clear hm
  go_enter Try.func51, Try.ntmps51
  go_wp2
  go_loopw [7, 8] (fun o i wr => ∃ k : Nat, k ≤ m ∧ i = .int .i64 (2 * k : Nat) ∧ o = .int .u64 (nv (permTo x size tab k)) ∧ Drawn w wr) (fun _ i _ => 2 * m - (intOf i).toNat)
  case atStart => exact ⟨0, by omega, rfl, rfl, Drawn.refl _⟩
  case round =>
    obtain ⟨k, hk, rfl, rfl, hD⟩ := hrel
    have HD := Lib.hid hD
    by_cases hlt : k < m
    · have hlt' : k < tab.length := by rw [HM.out]; exact hlt
      obtain ⟨i, hi⟩ : ∃ i, 2 * k = i := ⟨_, rfl⟩
      obtain ⟨g1, g2, g3⟩ := HS.out.2 k hlt' i hi.symm
      simp only [hi]
      have h1 : i < s.size := by omega
      have h2 : i + 1 < s.size := by omega
      have HI := Lib.hid hi
      have him : i + 2 ≤ 128 := by omega
      have h1i : (i : Int) < (s.size : Int) := by omega
      have h2i : (i : Int) + 1 < (s.size : Int) := by omega
      obtain ⟨a, ha⟩ : ∃ a, tab.getD k 0 = a := ⟨_, rfl⟩
      rw [ha] at g1 g2 g3
      have ha2 : a ≤ size := by rw [← ha]; exact HN.out k hlt'
      obtain ⟨o, ho⟩ : ∃ o, permTo x size tab k = o := ⟨_, rfl⟩
      have HO := Lib.hid ho
      have HA := Lib.hid ha
      rw [ho]
      have HLT := Lib.hid hlt
      clear hD ha ho hlt' hss hi hlt hk
      go_wp2
      go_region
      go_wp2
      go_roundw
      case rel =>
        have hkm : k < m := HLT.out
        refine ⟨k + 1, by omega, by have := HI.out; congr 1; omega, ?_, HD.out.drew⟩
        have hlt' : k < tab.length := by have := HM.out; have := HI.out; omega
        rw [permTo_succ _ _ _ _ hlt', HO.out, HA.out]
        have hob := permTo_lt x size tab k
        rw [HO.out] at hob
        have : o < 2 ^ 63 := Nat.lt_of_lt_of_le hob (Nat.pow_le_pow_right (by decide) (by have := HM.out; omega))
        exact congrArg (Value.int .u64) (perm_step o x size a this hx)
      case measure => have := HI.out; have : k < m := HLT.out; simp [intOf]; omega
    · have HE := Lib.hid (show k = m by omega)
      have HD := Lib.hid hD
      have hge : ¬ (2 * k < s.size) := by omega
      clear hD hss
      go_wp2
      go_ret
      refine ⟨?_, HD.out⟩
      have : perm x size tab = permTo x size tab k := by unfold perm; rw [HE.out, HM.out]
      rw [this]; rfl
set_option maxHeartbeats 800000 in
set_option maxRecDepth 100000 in
theorem unpermute_any (x : Nat) (s : ByteArray) (tab : List Nat) (w : World) (hx : x < 2 ^ 64) (hs : Tells s tab) (hl : tab.length ≤ 64) (hn : ∀ k, k < tab.length → 1 ≤ tab.getD k 0 ∧ tab.getD k 0 ≤ 64) :
    Calls Try.prog 55 #[.int .u64 (nv x), .string s] w fun e w' => e = .returned (.int .u64 (nv (unperm x tab))) ∧ Drawn w w' := by
  have hss : s.size = 2 * tab.length := hs.1
  have HS := Lib.hid hs
  have HN := Lib.hid hn
  clear hs hn
  obtain ⟨m, hm⟩ : ∃ m, tab.length = m := ⟨_, rfl⟩
  rw [hm] at hss hl
  have HM := Lib.hid hm
  have hs2 : s.size ≤ 128 := by omega
  have HSS := Lib.hid hss
  clear hm
  go_enter Try.func55, Try.ntmps55
  go_wp2
  go_loopw [5, 6] (fun o i wr => ∃ k : Nat, k ≤ m ∧ i = .int .i64 (2 * k : Nat) ∧ o = .int .u64 (nv (unpTo x tab k)) ∧ Drawn w wr) (fun _ i _ => 2 * m - (intOf i).toNat)
  case atStart => exact ⟨0, by omega, rfl, rfl, Drawn.refl _⟩
  case round =>
    obtain ⟨k, hk, rfl, rfl, hD⟩ := hrel
    have HD := Lib.hid hD
    by_cases hlt : k < m
    · have hlt' : k < tab.length := by rw [HM.out]; exact hlt
      obtain ⟨i, hi⟩ : ∃ i, 2 * k = i := ⟨_, rfl⟩
      obtain ⟨g1, g2, g3⟩ := HS.out.2 k hlt' i hi.symm
      simp only [hi]
      have h1 : i < s.size := by omega
      have h2 : i + 1 < s.size := by omega
      have HI := Lib.hid hi
      have him : i + 2 ≤ 128 := by omega
      have h1i : (i : Int) < (s.size : Int) := by omega
      have h2i : (i : Int) + 1 < (s.size : Int) := by omega
      obtain ⟨a, ha⟩ : ∃ a, tab.getD k 0 = a := ⟨_, rfl⟩
      rw [ha] at g1 g2 g3
      have ha2 : 1 ≤ a ∧ a ≤ 64 := by rw [← ha]; exact HN.out k hlt'
      obtain ⟨ha3, ha4⟩ := ha2
      have hq : (i : Int) / 2 = (k : Int) := by omega
      have hk63 : k ≤ 63 := by omega
      obtain ⟨o, ho⟩ : ∃ o, unpTo x tab k = o := ⟨_, rfl⟩
      have HO := Lib.hid ho
      have HA := Lib.hid ha
      rw [ho]
      have HLT := Lib.hid hlt
      clear hD ha ho hlt' hss hi hlt hk
      go_wp2
      go_region
      go_wp2
      go_roundw
      case rel =>
        have hkm : k < m := HLT.out
        refine ⟨k + 1, by omega, by have := HI.out; congr 1; omega, ?_, HD.out.drew⟩
        have hob := unpTo_lt x tab k (fun j hj => (HN.out j (by have := HM.out; omega)).1)
        rw [HO.out] at hob
        simp only [unpTo]
        rw [HO.out, HA.out]
        exact congrArg (Value.int .u64) (unp_step o x k a hob hx hk63 ha3 ha4)
      case measure => have := HI.out; have : k < m := HLT.out; simp [intOf]; omega
    · have HE := Lib.hid (show k = m by omega)
      have HD := Lib.hid hD
      have hge : ¬ (2 * k < s.size) := by omega
      clear hD hss
      go_wp2
      go_ret
      refine ⟨?_, HD.out⟩
      have : unperm x tab = unpTo x tab k := by unfold unperm; rw [HE.out, HM.out]
      rw [this]; rfl
end Go.Proofs.Ytjbdhnmkeaogcaa
