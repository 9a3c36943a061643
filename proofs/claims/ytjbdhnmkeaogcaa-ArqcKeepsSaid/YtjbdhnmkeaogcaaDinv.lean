/- DES and TDES, undone: what is enciphered, and deciphered, is what it was. -/
import Derived.Test.YtjbdhnmkeaogcaaDesW
set_option linter.unusedVariables false
set_option linter.unusedSimpArgs false
namespace Lk
theorem bitOf_tb (x size n : Nat) : bitOf x size n = (x.testBit (size - n)).toNat := by
  unfold bitOf
  rw [Nat.toNat_testBit]
theorem tb_step (a : Nat) (b : Bool) (i : Nat) : (2 * a + b.toNat).testBit i = if i = 0 then b else a.testBit (i - 1) := by
  cases i with
  | zero => cases b <;> simp [Nat.testBit_zero] <;> omega
  | succ i =>
    rw [if_neg (by omega), Nat.testBit_succ]
    have : (2 * a + b.toNat) / 2 = a := by cases b <;> simp <;> omega
    rw [this]; rfl
theorem permTo_tb (x size : Nat) (tab : List Nat) (k : Nat) (hk : k ≤ tab.length) (i : Nat) (hi : i < k) : (permTo x size tab k).testBit i = x.testBit (size - tab.getD (k - 1 - i) 0) := by
  induction k generalizing i with
  | zero => omega
  | succ k ih =>
    rw [permTo_succ _ _ _ _ (by omega), bitOf_tb, tb_step]
    split
    · subst i; rfl
    · rw [ih (by omega) (i - 1) (by omega)]
      have : k - 1 - (i - 1) = k + 1 - 1 - i := by omega
      rw [this]
theorem tb_pow (y : Nat) (b : Bool) (n : Nat) (i : Nat) : (b.toNat * 2 ^ n).testBit i = (n == i && b) := by
  cases b
  · simp
  · simp [Nat.testBit_two_pow]
    by_cases h : n = i <;> simp [h]
theorem unpTo_tb (x : Nat) (tab : List Nat) (i : Nat) (k : Nat) : (unpTo x tab k).testBit i = (List.range k).any fun j => (64 - tab.getD j 0 == i) && x.testBit (63 - j) := by
  induction k with
  | zero => simp [unpTo]
  | succ k ih =>
    show (unpTo x tab k ||| (x / 2 ^ (63 - k) % 2) * 2 ^ (64 - tab.getD k 0)).testBit i = _
    rw [Nat.testBit_or, ih, List.range_succ, List.any_append, ← Nat.toNat_testBit, tb_pow x]
    simp
theorem any_at {l : List Nat} {p : Nat → Bool} {b : Bool} (h1 : ∀ j ∈ l, p j = true → b = true) (h2 : b = true → ∃ j ∈ l, p j = true) : l.any p = b := by
  rw [Bool.eq_iff_iff, List.any_eq_true]
  exact ⟨fun ⟨j, hj, hp⟩ => h1 j hj hp, h2⟩
theorem ip_hits : ∀ i, i < 64 → ∃ j, j ∈ List.range 64 ∧ 64 - tabIP.getD j 0 = i := by
  have h : (List.range 64).all (fun i => (List.range 64).any fun j => 64 - tabIP.getD j 0 == i) = true := by decide +kernel
  intro i hi
  have := List.all_eq_true.1 h i (List.mem_range.2 hi)
  obtain ⟨j, hj, hp⟩ := List.any_eq_true.1 this
  exact ⟨j, hj, by simpa using hp⟩
theorem ip_once : ∀ i, i < 64 → ∀ j, j < 64 → 64 - tabIP.getD i 0 = 64 - tabIP.getD j 0 → i = j := by
  have h : (List.range 64).all (fun i => (List.range 64).all fun j => !(64 - tabIP.getD i 0 == 64 - tabIP.getD j 0) || i == j) = true := by decide +kernel
  intro i hi j hj e
  have := List.all_eq_true.1 (List.all_eq_true.1 h i (List.mem_range.2 hi)) j (List.mem_range.2 hj)
  rw [e] at this
  simpa using this
theorem ip_pos : ∀ j, j < 64 → 1 ≤ tabIP.getD j 0 := by
  have h : (List.range 64).all (fun j => decide (1 ≤ tabIP.getD j 0)) = true := by decide +kernel
  intro j hj
  simpa using List.all_eq_true.1 h j (List.mem_range.2 hj)
theorem perm_tb (x i : Nat) (hi : i < 64) : (perm x 64 tabIP).testBit i = x.testBit (64 - tabIP.getD (63 - i) 0) := by
  unfold perm
  have h := permTo_tb x 64 tabIP tabIP.length (Nat.le_refl _) i (by rw [len_IP]; exact hi)
  rw [len_IP] at h ⊢
  exact h
theorem unperm_tb (x i : Nat) : (unperm x tabIP).testBit i = (List.range 64).any fun j => (64 - tabIP.getD j 0 == i) && x.testBit (63 - j) := by
  unfold unperm
  rw [len_IP]
  exact unpTo_tb x tabIP i 64
theorem ext64 {x y : Nat} (hx : x < 2 ^ 64) (hy : y < 2 ^ 64) (h : ∀ i, i < 64 → x.testBit i = y.testBit i) : x = y := by
  apply Nat.eq_of_testBit_eq
  intro i
  by_cases hi : i < 64
  · exact h i hi
  · have e : 2 ^ 64 ≤ 2 ^ i := Nat.pow_le_pow_right (by decide) (by omega)
    rw [Nat.testBit_lt_two_pow (Nat.lt_of_lt_of_le hx e), Nat.testBit_lt_two_pow (Nat.lt_of_lt_of_le hy e)]
theorem unperm_perm (x : Nat) (hx : x < 2 ^ 64) : unperm (perm x 64 tabIP) tabIP = x := by
  refine ext64 (unperm_IP_lt _) hx fun i hi => ?_
  rw [unperm_tb]
  refine any_at (fun j hj hp => ?_) fun hb => ?_
  · have hj' := List.mem_range.1 hj
    simp only [Bool.and_eq_true, beq_iff_eq] at hp
    rw [perm_tb _ _ (by omega)] at hp
    have e : 63 - (63 - j) = j := by omega
    rw [e, hp.1] at hp
    exact hp.2
  · obtain ⟨j, hj, e⟩ := ip_hits i hi
    have hj' := List.mem_range.1 hj
    refine ⟨j, hj, ?_⟩
    rw [perm_tb _ _ (by omega)]
    have e2 : 63 - (63 - j) = j := by omega
    rw [e2, e, hb]; simp
theorem perm_unperm (x : Nat) (hx : x < 2 ^ 64) : perm (unperm x tabIP) 64 tabIP = x := by
  refine ext64 (perm_IP_lt _) hx fun i hi => ?_
  rw [perm_tb _ _ hi, unperm_tb]
  refine any_at (fun j hj hp => ?_) fun hb => ?_
  · have hj' := List.mem_range.1 hj
    simp only [Bool.and_eq_true, beq_iff_eq] at hp
    have := ip_once j hj' (63 - i) (by omega) hp.1
    rw [this] at hp
    have e : 63 - (63 - i) = i := by omega
    rw [e] at hp
    exact hp.2
  · refine ⟨63 - i, List.mem_range.2 (by omega), ?_⟩
    have e : 63 - (63 - i) = i := by omega
    rw [e, hb]; simp
theorem numTo_digit (b : List UInt8) (k : Nat) : ∀ i, i < k → numTo b k / 256 ^ (k - 1 - i) % 256 = (g8 b i).toNat := by
  induction k with
  | zero => intro i hi; omega
  | succ k ih =>
    intro i hi
    show (256 * numTo b k + (g8 b k).toNat) / 256 ^ (k + 1 - 1 - i) % 256 = _
    have hc := (g8 b k).toNat_lt
    by_cases h : i = k
    · subst h
      rw [show i + 1 - 1 - i = 0 by omega, Nat.pow_zero, Nat.div_one]
      omega
    · rw [show k + 1 - 1 - i = (k - 1 - i) + 1 by omega, Nat.pow_succ, Nat.mul_comm (256 ^ _), ← Nat.div_div_eq_div_mul]
      have : (256 * numTo b k + (g8 b k).toNat) / 256 = numTo b k := by omega
      rw [this]
      exact ih i (by omega)
theorem pow_256 (n : Nat) : 256 ^ n = 2 ^ (8 * n) := by
  rw [Nat.pow_mul]
theorem pbytes_num (b : List UInt8) (hb : b.length = 8) : pbytes (num b) = b := by
  apply List.ext_getElem
  · rw [pbytes_len, hb]
  · intro i h1 h2
    have hi : i < 8 := by omega
    simp only [pbytes, List.getElem_map, List.getElem_range]
    have h := numTo_digit b 8 i hi
    have e : (256 : Nat) ^ (8 - 1 - i) = 2 ^ (56 - 8 * i) := by rw [pow_256, show 8 * (8 - 1 - i) = 56 - 8 * i by omega]
    rw [e] at h
    apply UInt8.toNat_inj.1
    rw [UInt8.toNat_ofNat']
    show num b / 2 ^ (56 - 8 * i) % 256 = _
    unfold num
    rw [h]
    simp [g8, h2]
theorem num_pbytes_to (y k : Nat) (hk : k ≤ 8) (hy : y < 2 ^ 64) : numTo (pbytes y) k = y / 2 ^ (64 - 8 * k) := by
  induction k with
  | zero => show 0 = _; rw [Nat.div_eq_of_lt hy]
  | succ k ih =>
    show 256 * numTo (pbytes y) k + (g8 (pbytes y) k).toNat = _
    rw [ih (by omega)]
    have h1 : g8 (pbytes y) k = UInt8.ofNat (y / 2 ^ (56 - 8 * k)) := by
      unfold g8 pbytes
      rw [List.getD_eq_getElem?_getD]
      simp [show k < 8 by omega]
    rw [h1, UInt8.toNat_ofNat']
    have e1 : 64 - 8 * k = (56 - 8 * k) + 8 := by omega
    have e2 : 64 - 8 * (k + 1) = 56 - 8 * k := by omega
    rw [e1, e2, Nat.pow_add, ← Nat.div_div_eq_div_mul]
    have : (2 : Nat) ^ 8 = 256 := rfl
    rw [this]
    omega
theorem num_pbytes (y : Nat) (hy : y < 2 ^ 64) : num (pbytes y) = y := by
  unfold num
  rw [num_pbytes_to y 8 (Nat.le_refl _) hy]
  simp
theorem halves (l r : Nat) (hr : r < 4294967296) : (l * 4294967296 ||| r) / 4294967296 = l ∧ (l * 4294967296 ||| r) &&& 4294967295 = r := by
  have e : l * 4294967296 ||| r = l * 4294967296 + r := by
    have := Nat.two_pow_add_eq_or_of_lt (i := 32) (by simpa using hr) l
    rw [Nat.mul_comm l]
    simpa using this.symm
  rw [e]
  refine ⟨by omega, ?_⟩
  have : (4294967295 : Nat) = 2 ^ 32 - 1 := rfl
  rw [this, Nat.and_two_pow_sub_one_eq_mod]
  have : (2 : Nat) ^ 32 = 4294967296 := rfl
  rw [this]
  omega
theorem halves_back (x : Nat) : (x / 4294967296) * 4294967296 ||| (x &&& 4294967295) = x := by
  have e0 : x &&& 4294967295 = x % 4294967296 := by
    have : (4294967295 : Nat) = 2 ^ 32 - 1 := rfl
    rw [this, Nat.and_two_pow_sub_one_eq_mod]
  have hr : x % 4294967296 < 4294967296 := Nat.mod_lt _ (by decide)
  rw [e0]
  have e : (x / 4294967296) * 4294967296 ||| (x % 4294967296) = (x / 4294967296) * 4294967296 + (x % 4294967296) := by
    have := Nat.two_pow_add_eq_or_of_lt (i := 32) (by simpa using hr) (x / 4294967296)
    rw [Nat.mul_comm (x / 4294967296)]
    simpa using this.symm
  rw [e]
  omega
theorem ixOf_not (back : Bool) (j : Nat) (hj : j < 16) : ixOf (!back) j = ixOf back (15 - j) := by
  cases back
  · show 15 - j = 15 - j; rfl
  · show j = 15 - (15 - j); omega
/-- the rounds undone -/
theorem lr_back (ks : List Nat) (back : Bool) (x y : Nat) (hy : y = (lrTo ks back x 16).2 * 4294967296 ||| (lrTo ks back x 16).1) (hx : x < 2 ^ 64) (j : Nat) (hj : j ≤ 16) :
    lrTo ks (!back) y j = ((lrTo ks back x (16 - j)).2, (lrTo ks back x (16 - j)).1) := by
  induction j with
  | zero =>
    have h := halves (lrTo ks back x 16).2 (lrTo ks back x 16).1 (lrTo_lt ks back x hx 16).1
    rw [← hy] at h
    show (y / 4294967296, y &&& 4294967295) = _
    rw [h.1, h.2]
  | succ j ih =>
    have ih := ih (by omega)
    show ((lrTo ks (!back) y j).2, (lrTo ks (!back) y j).1 ^^^ dmix (lrTo ks (!back) y j).2 (gN ks (ixOf (!back) j))) = _
    rw [ih, ixOf_not back j (by omega)]
    obtain ⟨k, hk⟩ : ∃ k, 16 - j = k + 1 := ⟨15 - j, by omega⟩
    have e1 : 16 - (j + 1) = k := by omega
    have e2 : 15 - j = k := by omega
    rw [hk, e1, e2]
    show (_, _) = (_, _)
    have h1 : (lrTo ks back x (k + 1)).1 = (lrTo ks back x k).2 := rfl
    have h2 : (lrTo ks back x (k + 1)).2 = (lrTo ks back x k).1 ^^^ dmix (lrTo ks back x k).2 (gN ks (ixOf back k)) := rfl
    rw [h1, h2, Nat.xor_assoc, Nat.xor_self, Nat.xor_zero]
theorem dblock_back (key b : List UInt8) (back : Bool) (hb : b.length = 8) : dblock key (dblock key b back) (!back) = b := by
  obtain ⟨x, ex⟩ : ∃ x, perm (num b) 64 tabIP = x := ⟨_, rfl⟩
  have hx : x < 2 ^ 64 := by rw [← ex]; exact perm_IP_lt _
  obtain ⟨ks, ek⟩ : ∃ ks, dkeys key = ks := ⟨_, rfl⟩
  obtain ⟨y, ey⟩ : ∃ y, (lrTo ks back x 16).2 * 4294967296 ||| (lrTo ks back x 16).1 = y := ⟨_, rfl⟩
  have hlt := lrTo_lt ks back x hx 16
  have hy : y < 2 ^ 64 := by rw [← ey]; exact (join32 _ _ hlt.2 hlt.1).2
  have e1 : dblock key b back = pbytes (unperm y tabIP) := by unfold dblock; rw [ex, ek, ey]
  have e2 : num (pbytes (unperm y tabIP)) = unperm y tabIP := num_pbytes _ (unperm_IP_lt _)
  rw [e1]
  unfold dblock
  rw [ek, e2, perm_unperm y hy, lr_back ks back x y ey.symm hx 16 (Nat.le_refl _)]
  show pbytes (unperm ((lrTo ks back x 0).1 * 4294967296 ||| (lrTo ks back x 0).2) tabIP) = b
  show pbytes (unperm ((x / 4294967296) * 4294967296 ||| (x &&& 4294967295)) tabIP) = b
  rw [halves_back, ← ex, unperm_perm _ (num_lt b), pbytes_num b hb]
theorem triple3_back (k0 k1 k2 b : List UInt8) (back : Bool) (hb : b.length = 8) : triple3 k2 k1 k0 (triple3 k0 k1 k2 b back) (!back) = b := by
  unfold triple3
  rw [dblock_back k2 _ back (dblock_len _ _ _)]
  have h := dblock_back k1 (dblock k0 b back) (!back) (dblock_len _ _ _)
  rw [h, dblock_back k0 b back hb]
theorem ptriple_back (key b : List UInt8) (back : Bool) (hb : b.length = 8) : ptriple key (ptriple key b back) (!back) = b := by
  unfold ptriple
  by_cases h : key.length = 8
  · rw [if_pos h, if_pos h]; exact dblock_back _ _ _ hb
  · rw [if_neg h, if_neg h]
    cases back
    · exact triple3_back _ _ _ b false hb
    · exact triple3_back _ _ _ b true hb
theorem ptriple_inj (key a b : List UInt8) (back : Bool) (ha : a.length = 8) (hb : b.length = 8) : ptriple key a back = ptriple key b back ↔ a = b :=
  ⟨fun h => by rw [← ptriple_back key a back ha, h, ptriple_back key b back hb], fun h => by rw [h]⟩
theorem dblock_inj (key a b : List UInt8) (back : Bool) (ha : a.length = 8) (hb : b.length = 8) : dblock key a back = dblock key b back ↔ a = b :=
  ⟨fun h => by rw [← dblock_back key a back ha, h, dblock_back key b back hb], fun h => by rw [h]⟩
end Lk
