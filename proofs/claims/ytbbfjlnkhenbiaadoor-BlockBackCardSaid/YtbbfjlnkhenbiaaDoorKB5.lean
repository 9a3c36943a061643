/- AES, undone: what is enciphered, and deciphered, is what it was, and the other way round. -/
import Derived.Test.YtbbfjlnkhenbiaaDoorKB3
import Derived.Test.YtbbfjlnkhenbiaaDoorKB2
import Derived.Test.YtbbfjlnkhenbiaaDoorKB4
import Derived.ChangeKeysEq
set_option linter.unusedVariables false
set_option linter.unusedSimpArgs false
namespace Lk
open Go.Proofs.YtbbfjlnkhenbiaaDoor
theorem ext_g8 {a b : List UInt8} (h : a.length = b.length) (hi : ∀ i, i < a.length → g8 a i = g8 b i) : a = b := by
  apply List.ext_getElem h
  intro i h1 h2
  have := hi i h1
  simpa [g8, h1, h2] using this
theorem pwith_at (b ws : List UInt8) (r i : Nat) (hi : i < 16) : g8 (pwith b ws r) i = g8 b i ^^^ g8 ws (16 * r + i) := by
  unfold pwith; rw [upd_at _ _ _ _ hi, if_pos hi]
theorem prows_at (b : List UInt8) (t i : Nat) (hi : i < 16) : g8 (prows b t) i = g8 b ((i + 4 * (i % 4) * t) % 16) := by
  unfold prows; rw [upd_at _ _ _ _ hi, if_pos hi]; rfl
theorem pboxes_at (f : UInt8 → UInt8) (b : List UInt8) (i : Nat) (hi : i < 16) : g8 (pboxes f b) i = f (g8 b i) := by
  unfold pboxes; rw [upd_at _ _ _ _ hi, if_pos hi]
theorem pcols_at (m b : List UInt8) (c s : Nat) (hc : c % 4 = 0) (hs : s < 4) (h : c + s < 16) :
    g8 (pcols m b) (c + s) = ((gmul (g8 m 0) (g8 b (c + s)) ^^^ gmul (g8 m 1) (g8 b (c + (s + 1) % 4))) ^^^ gmul (g8 m 2) (g8 b (c + (s + 2) % 4))) ^^^ gmul (g8 m 3) (g8 b (c + (s + 3) % 4)) := by
  unfold pcols
  rw [upd_at _ _ _ _ h, if_pos h]
  have e1 : (c + s) / 4 * 4 = c := by omega
  have e2 : (c + s) % 4 = s := by omega
  have e3 : (s + 0) % 4 = s := by omega
  simp only [colTo, e1, e2, e3, UInt8.zero_xor]
theorem pwith_twice (b ws : List UInt8) (r : Nat) (hb : b.length = 16) : pwith (pwith b ws r) ws r = b := by
  refine ext_g8 (by rw [pwith_len, hb]) fun i hi => ?_
  rw [pwith_len] at hi
  rw [pwith_at _ _ _ _ hi, pwith_at _ _ _ _ hi, UInt8.xor_assoc, UInt8.xor_self, UInt8.xor_zero]
theorem prows_back (b : List UInt8) (hb : b.length = 16) (s t : Nat) (hst : (s = 1 ∧ t = 3) ∨ (s = 3 ∧ t = 1)) : prows (prows b s) t = b := by
  refine ext_g8 (by rw [prows_len, hb]) fun i hi => ?_
  rw [prows_len] at hi
  rw [prows_at _ _ _ hi, prows_at _ _ _ (Nat.mod_lt _ (by decide))]
  have : ((i + 4 * (i % 4) * t) % 16 + 4 * ((i + 4 * (i % 4) * t) % 16 % 4) * s) % 16 = i := by
    rcases hst with ⟨rfl, rfl⟩ | ⟨rfl, rfl⟩ <;> omega
  rw [this]
theorem pboxes_back (f g : UInt8 → UInt8) (h : ∀ x, g (f x) = x) (b : List UInt8) (hb : b.length = 16) : pboxes g (pboxes f b) = b := by
  refine ext_g8 (by rw [pboxes_len, hb]) fun i hi => ?_
  rw [pboxes_len] at hi
  rw [pboxes_at _ _ _ hi, pboxes_at _ _ _ hi, h]
/-- four products' sums, grouped by what is multiplied -/
theorem mix_group (m n : List UInt8) (x0 x1 x2 x3 : UInt8)
    (h0 : ((gmul (g8 n 0) (g8 m 0) ^^^ gmul (g8 n 1) (g8 m 3)) ^^^ gmul (g8 n 2) (g8 m 2)) ^^^ gmul (g8 n 3) (g8 m 1) = 1)
    (h1 : ((gmul (g8 n 0) (g8 m 1) ^^^ gmul (g8 n 1) (g8 m 0)) ^^^ gmul (g8 n 2) (g8 m 3)) ^^^ gmul (g8 n 3) (g8 m 2) = 0)
    (h2 : ((gmul (g8 n 0) (g8 m 2) ^^^ gmul (g8 n 1) (g8 m 1)) ^^^ gmul (g8 n 2) (g8 m 0)) ^^^ gmul (g8 n 3) (g8 m 3) = 0)
    (h3 : ((gmul (g8 n 0) (g8 m 3) ^^^ gmul (g8 n 1) (g8 m 2)) ^^^ gmul (g8 n 2) (g8 m 1)) ^^^ gmul (g8 n 3) (g8 m 0) = 0) :
    ((gmul (g8 n 0) (((gmul (g8 m 0) x0 ^^^ gmul (g8 m 1) x1) ^^^ gmul (g8 m 2) x2) ^^^ gmul (g8 m 3) x3)
      ^^^ gmul (g8 n 1) (((gmul (g8 m 0) x1 ^^^ gmul (g8 m 1) x2) ^^^ gmul (g8 m 2) x3) ^^^ gmul (g8 m 3) x0))
      ^^^ gmul (g8 n 2) (((gmul (g8 m 0) x2 ^^^ gmul (g8 m 1) x3) ^^^ gmul (g8 m 2) x0) ^^^ gmul (g8 m 3) x1))
      ^^^ gmul (g8 n 3) (((gmul (g8 m 0) x3 ^^^ gmul (g8 m 1) x0) ^^^ gmul (g8 m 2) x1) ^^^ gmul (g8 m 3) x2) = x0 := by
  have e0 := congrArg (fun c => gmul c x0) h0
  have e1 := congrArg (fun c => gmul c x1) h1
  have e2 := congrArg (fun c => gmul c x2) h2
  have e3 := congrArg (fun c => gmul c x3) h3
  simp only [gmul_xor_left, one_gmul, gmul_zero_left] at e0 e1 e2 e3
  simp only [gmul_xor_right, gmul_assoc]
  generalize gmul (gmul (g8 n 0) (g8 m 0)) x0 = a00 at *
  generalize gmul (gmul (g8 n 1) (g8 m 3)) x0 = a01 at *
  generalize gmul (gmul (g8 n 2) (g8 m 2)) x0 = a02 at *
  generalize gmul (gmul (g8 n 3) (g8 m 1)) x0 = a03 at *
  generalize gmul (gmul (g8 n 0) (g8 m 1)) x1 = a10 at *
  generalize gmul (gmul (g8 n 1) (g8 m 0)) x1 = a11 at *
  generalize gmul (gmul (g8 n 2) (g8 m 3)) x1 = a12 at *
  generalize gmul (gmul (g8 n 3) (g8 m 2)) x1 = a13 at *
  generalize gmul (gmul (g8 n 0) (g8 m 2)) x2 = a20 at *
  generalize gmul (gmul (g8 n 1) (g8 m 1)) x2 = a21 at *
  generalize gmul (gmul (g8 n 2) (g8 m 0)) x2 = a22 at *
  generalize gmul (gmul (g8 n 3) (g8 m 3)) x2 = a23 at *
  generalize gmul (gmul (g8 n 0) (g8 m 3)) x3 = a30 at *
  generalize gmul (gmul (g8 n 1) (g8 m 2)) x3 = a31 at *
  generalize gmul (gmul (g8 n 2) (g8 m 1)) x3 = a32 at *
  generalize gmul (gmul (g8 n 3) (g8 m 0)) x3 = a33 at *
  have : (((a00 ^^^ a10) ^^^ a20) ^^^ a30 ^^^ (((a11 ^^^ a21) ^^^ a31) ^^^ a01) ^^^ (((a22 ^^^ a32) ^^^ a02) ^^^ a12)) ^^^ (((a33 ^^^ a03) ^^^ a13) ^^^ a23) =
      ((((a00 ^^^ a01) ^^^ a02) ^^^ a03) ^^^ (((a10 ^^^ a11) ^^^ a12) ^^^ a13)) ^^^ ((((a20 ^^^ a21) ^^^ a22) ^^^ a23) ^^^ (((a30 ^^^ a31) ^^^ a32) ^^^ a33)) := by ac_rfl
  rw [this, e0, e1, e2, e3]
  simp
theorem pcols_back (m n : List UInt8) (b : List UInt8) (hb : b.length = 16)
    (h0 : ((gmul (g8 n 0) (g8 m 0) ^^^ gmul (g8 n 1) (g8 m 3)) ^^^ gmul (g8 n 2) (g8 m 2)) ^^^ gmul (g8 n 3) (g8 m 1) = 1)
    (h1 : ((gmul (g8 n 0) (g8 m 1) ^^^ gmul (g8 n 1) (g8 m 0)) ^^^ gmul (g8 n 2) (g8 m 3)) ^^^ gmul (g8 n 3) (g8 m 2) = 0)
    (h2 : ((gmul (g8 n 0) (g8 m 2) ^^^ gmul (g8 n 1) (g8 m 1)) ^^^ gmul (g8 n 2) (g8 m 0)) ^^^ gmul (g8 n 3) (g8 m 3) = 0)
    (h3 : ((gmul (g8 n 0) (g8 m 3) ^^^ gmul (g8 n 1) (g8 m 2)) ^^^ gmul (g8 n 2) (g8 m 1)) ^^^ gmul (g8 n 3) (g8 m 0) = 0) : pcols n (pcols m b) = b := by
  refine ext_g8 (by rw [pcols_len, hb]) fun i hi => ?_
  rw [pcols_len] at hi
  obtain ⟨c, s, hc, hs, rfl⟩ : ∃ c s, c % 4 = 0 ∧ s < 4 ∧ i = c + s := ⟨i / 4 * 4, i % 4, by omega, by omega, by omega⟩
  have hc16 : c ≤ 12 := by omega
  have hs' : s = 0 ∨ s = 1 ∨ s = 2 ∨ s = 3 := by omega
  rw [pcols_at n _ c s hc hs hi]
  rw [pcols_at m b c s hc hs hi, pcols_at m b c ((s + 1) % 4) hc (by omega) (by omega), pcols_at m b c ((s + 2) % 4) hc (by omega) (by omega), pcols_at m b c ((s + 3) % 4) hc (by omega) (by omega)]
  have q (a k : Nat) : ((s + a) % 4 + k) % 4 = (s + (a + k) % 4) % 4 := by omega
  have q0 : (s + 0) % 4 = s := by omega
  simp only [q, Nat.reduceAdd, Nat.reduceMod, q0]
  exact mix_group m n _ _ _ _ h0 h1 h2 h3
theorem cols_ed (b : List UInt8) (hb : b.length = 16) : pcols [14, 11, 13, 9] (pcols [2, 3, 1, 1] b) = b :=
  pcols_back _ _ b hb (by decide +kernel) (by decide +kernel) (by decide +kernel) (by decide +kernel)
theorem cols_de (b : List UInt8) (hb : b.length = 16) : pcols [2, 3, 1, 1] (pcols [14, 11, 13, 9] b) = b :=
  pcols_back _ _ b hb (by decide +kernel) (by decide +kernel) (by decide +kernel) (by decide +kernel)
theorem dec_enc_to (ws b : List UInt8) (n : Nat) (hb : b.length = 16) (j : Nat) (hj : j ≤ n) : decTo ws (encTo ws b n n) n j = encTo ws b n (n - j) := by
  induction j with
  | zero => rfl
  | succ j ih =>
    have ih := ih (by omega)
    obtain ⟨k, hk⟩ : ∃ k, n - j = k + 1 := ⟨n - j - 1, by omega⟩
    have e1 : n - (j + 1) = k := by omega
    simp only [decTo]
    rw [ih, e1, hk]
    have hl := encTo_len ws b n k
    simp only [encTo]
    by_cases hr : k + 1 < n
    · rw [if_pos hr, if_pos hr, pwith_twice _ _ _ (pcols_len _ _), cols_ed _ (prows_len _ _), prows_back _ (pboxes_len _ _) 1 3 (.inl ⟨rfl, rfl⟩), pboxes_back gbox gunbox unbox_box _ hl]
    · rw [if_neg hr, if_neg hr, pwith_twice _ _ _ (prows_len _ _), prows_back _ (pboxes_len _ _) 1 3 (.inl ⟨rfl, rfl⟩), pboxes_back gbox gunbox unbox_box _ hl]
theorem enc_dec_to (ws c : List UInt8) (n : Nat) (hc : c.length = 16) (k : Nat) (hk : k ≤ n) : encTo ws (pwith (decTo ws c n n) ws 0) n k = decTo ws c n (n - k) := by
  induction k with
  | zero => simp only [encTo]; exact pwith_twice _ _ _ (decTo_len _ _ _ _ hc)
  | succ k ih =>
    have ih := ih (by omega)
    obtain ⟨j, hj⟩ : ∃ j, n - k = j + 1 := ⟨n - k - 1, by omega⟩
    have e1 : n - (k + 1) = j := by omega
    have e2 : n - j = k + 1 := by omega
    simp only [encTo]
    rw [ih, e1, hj]
    simp only [decTo]
    rw [e2]
    by_cases hr : k + 1 < n
    · rw [if_pos hr, if_pos hr, pboxes_back gunbox gbox box_unbox _ (prows_len _ _), prows_back _ (pcols_len _ _) 3 1 (.inr ⟨rfl, rfl⟩), cols_de _ (pwith_len _ _ _), pwith_twice _ _ _ (decTo_len _ _ _ _ hc)]
    · rw [if_neg hr, if_neg hr, pboxes_back gunbox gbox box_unbox _ (prows_len _ _), prows_back _ (pwith_len _ _ _) 3 1 (.inr ⟨rfl, rfl⟩), pwith_twice _ _ _ (decTo_len _ _ _ _ hc)]
theorem pDec_pEnc (key b : List UInt8) (hb : b.length = 16) : pDec key (pEnc key b) = b := by
  unfold pDec pEnc
  rw [dec_enc_to _ _ _ hb _ (Nat.le_refl _), Nat.sub_self]
  exact pwith_twice _ _ _ hb
theorem pEnc_pDec (key b : List UInt8) (hb : b.length = 16) : pEnc key (pDec key b) = b := by
  unfold pDec pEnc
  rw [enc_dec_to _ _ _ hb _ (Nat.le_refl _), Nat.sub_self]
  rfl
end Lk
set_option linter.unusedVariables false
set_option linter.unusedSimpArgs false
namespace Lk
theorem bitOf_tb (x size n : Nat) : bitOf x size n = (x.testBit (size - n)).toNat := by
  unfold bitOf
  rw [Nat.toNat_testBit]
theorem tb_step (a : Nat) (b : Bool) (i : Nat) : (2 * a + b.toNat).testBit i = if i = 0 then b else a.testBit (i - 1) := by
  cases i with
  | zero => cases b <;> simp [Nat.testBit_zero] <;> omega
  | succ i =>
    rw [if_neg (by omega), Nat.testBit_succ]
    have : (2 * a + b.toNat) / 2 = a := by cases b <;> simp <;> omega
    rw [this]; rfl
theorem permTo_tb (x size : Nat) (tab : List Nat) (k : Nat) (hk : k ≤ tab.length) (i : Nat) (hi : i < k) : (permTo x size tab k).testBit i = x.testBit (size - tab.getD (k - 1 - i) 0) := by
  induction k generalizing i with
  | zero => omega
  | succ k ih =>
    rw [permTo_succ _ _ _ _ (by omega), bitOf_tb, tb_step]
    split
    · subst i; rfl
    · rw [ih (by omega) (i - 1) (by omega)]
      have : k - 1 - (i - 1) = k + 1 - 1 - i := by omega
      rw [this]
theorem tb_pow (y : Nat) (b : Bool) (n : Nat) (i : Nat) : (b.toNat * 2 ^ n).testBit i = (n == i && b) := by
  cases b
  · simp
  · simp [Nat.testBit_two_pow]
    by_cases h : n = i <;> simp [h]
theorem unpTo_tb (x : Nat) (tab : List Nat) (i : Nat) (k : Nat) : (unpTo x tab k).testBit i = (List.range k).any fun j => (64 - tab.getD j 0 == i) && x.testBit (63 - j) := by
  induction k with
  | zero => simp [unpTo]
  | succ k ih =>
    show (unpTo x tab k ||| (x / 2 ^ (63 - k) % 2) * 2 ^ (64 - tab.getD k 0)).testBit i = _
    rw [Nat.testBit_or, ih, List.range_succ, List.any_append, ← Nat.toNat_testBit, tb_pow x]
    simp
theorem any_at {l : List Nat} {p : Nat → Bool} {b : Bool} (h1 : ∀ j ∈ l, p j = true → b = true) (h2 : b = true → ∃ j ∈ l, p j = true) : l.any p = b := by
  rw [Bool.eq_iff_iff, List.any_eq_true]
  exact ⟨fun ⟨j, hj, hp⟩ => h1 j hj hp, h2⟩
theorem ip_hits : ∀ i, i < 64 → ∃ j, j ∈ List.range 64 ∧ 64 - tabIP.getD j 0 = i := by
  have h : (List.range 64).all (fun i => (List.range 64).any fun j => 64 - tabIP.getD j 0 == i) = true := by decide +kernel
  intro i hi
  have := List.all_eq_true.1 h i (List.mem_range.2 hi)
  obtain ⟨j, hj, hp⟩ := List.any_eq_true.1 this
  exact ⟨j, hj, by simpa using hp⟩
theorem ip_once : ∀ i, i < 64 → ∀ j, j < 64 → 64 - tabIP.getD i 0 = 64 - tabIP.getD j 0 → i = j := by
  have h : (List.range 64).all (fun i => (List.range 64).all fun j => !(64 - tabIP.getD i 0 == 64 - tabIP.getD j 0) || i == j) = true := by decide +kernel
  intro i hi j hj e
  have := List.all_eq_true.1 (List.all_eq_true.1 h i (List.mem_range.2 hi)) j (List.mem_range.2 hj)
  rw [e] at this
  simpa using this
theorem ip_pos : ∀ j, j < 64 → 1 ≤ tabIP.getD j 0 := by
  have h : (List.range 64).all (fun j => decide (1 ≤ tabIP.getD j 0)) = true := by decide +kernel
  intro j hj
  simpa using List.all_eq_true.1 h j (List.mem_range.2 hj)
theorem perm_tb (x i : Nat) (hi : i < 64) : (perm x 64 tabIP).testBit i = x.testBit (64 - tabIP.getD (63 - i) 0) := by
  unfold perm
  have h := permTo_tb x 64 tabIP tabIP.length (Nat.le_refl _) i (by rw [len_IP]; exact hi)
  rw [len_IP] at h ⊢
  exact h
theorem unperm_tb (x i : Nat) : (unperm x tabIP).testBit i = (List.range 64).any fun j => (64 - tabIP.getD j 0 == i) && x.testBit (63 - j) := by
  unfold unperm
  rw [len_IP]
  exact unpTo_tb x tabIP i 64
theorem ext64 {x y : Nat} (hx : x < 2 ^ 64) (hy : y < 2 ^ 64) (h : ∀ i, i < 64 → x.testBit i = y.testBit i) : x = y := by
  apply Nat.eq_of_testBit_eq
  intro i
  by_cases hi : i < 64
  · exact h i hi
  · have e : 2 ^ 64 ≤ 2 ^ i := Nat.pow_le_pow_right (by decide) (by omega)
    rw [Nat.testBit_lt_two_pow (Nat.lt_of_lt_of_le hx e), Nat.testBit_lt_two_pow (Nat.lt_of_lt_of_le hy e)]
theorem unperm_perm (x : Nat) (hx : x < 2 ^ 64) : unperm (perm x 64 tabIP) tabIP = x := by
  refine ext64 (unperm_IP_lt _) hx fun i hi => ?_
  rw [unperm_tb]
  refine any_at (fun j hj hp => ?_) fun hb => ?_
  · have hj' := List.mem_range.1 hj
    simp only [Bool.and_eq_true, beq_iff_eq] at hp
    rw [perm_tb _ _ (by omega)] at hp
    have e : 63 - (63 - j) = j := by omega
    rw [e, hp.1] at hp
    exact hp.2
  · obtain ⟨j, hj, e⟩ := ip_hits i hi
    have hj' := List.mem_range.1 hj
    refine ⟨j, hj, ?_⟩
    rw [perm_tb _ _ (by omega)]
    have e2 : 63 - (63 - j) = j := by omega
    rw [e2, e, hb]; simp
theorem perm_unperm (x : Nat) (hx : x < 2 ^ 64) : perm (unperm x tabIP) 64 tabIP = x := by
  refine ext64 (perm_IP_lt _) hx fun i hi => ?_
  rw [perm_tb _ _ hi, unperm_tb]
  refine any_at (fun j hj hp => ?_) fun hb => ?_
  · have hj' := List.mem_range.1 hj
    simp only [Bool.and_eq_true, beq_iff_eq] at hp
    have := ip_once j hj' (63 - i) (by omega) hp.1
    rw [this] at hp
    have e : 63 - (63 - i) = i := by omega
    rw [e] at hp
    exact hp.2
  · refine ⟨63 - i, List.mem_range.2 (by omega), ?_⟩
    have e : 63 - (63 - i) = i := by omega
    rw [e, hb]; simp
theorem numTo_digit (b : List UInt8) (k : Nat) : ∀ i, i < k → numTo b k / 256 ^ (k - 1 - i) % 256 = (g8 b i).toNat := by
  induction k with
  | zero => intro i hi; omega
  | succ k ih =>
    intro i hi
    show (256 * numTo b k + (g8 b k).toNat) / 256 ^ (k + 1 - 1 - i) % 256 = _
    have hc := (g8 b k).toNat_lt
    by_cases h : i = k
    · subst h
      rw [show i + 1 - 1 - i = 0 by omega, Nat.pow_zero, Nat.div_one]
      omega
    · rw [show k + 1 - 1 - i = (k - 1 - i) + 1 by omega, Nat.pow_succ, Nat.mul_comm (256 ^ _), ← Nat.div_div_eq_div_mul]
      have : (256 * numTo b k + (g8 b k).toNat) / 256 = numTo b k := by omega
      rw [this]
      exact ih i (by omega)
theorem pow_256 (n : Nat) : 256 ^ n = 2 ^ (8 * n) := by
  rw [Nat.pow_mul]
theorem pbytes_num (b : List UInt8) (hb : b.length = 8) : pbytes (num b) = b := by
  apply List.ext_getElem
  · rw [pbytes_len, hb]
  · intro i h1 h2
    have hi : i < 8 := by omega
    simp only [pbytes, List.getElem_map, List.getElem_range]
    have h := numTo_digit b 8 i hi
    have e : (256 : Nat) ^ (8 - 1 - i) = 2 ^ (56 - 8 * i) := by rw [pow_256, show 8 * (8 - 1 - i) = 56 - 8 * i by omega]
    rw [e] at h
    apply UInt8.toNat_inj.1
    rw [UInt8.toNat_ofNat']
    show num b / 2 ^ (56 - 8 * i) % 256 = _
    unfold num
    rw [h]
    simp [g8, h2]
theorem num_pbytes_to (y k : Nat) (hk : k ≤ 8) (hy : y < 2 ^ 64) : numTo (pbytes y) k = y / 2 ^ (64 - 8 * k) := by
  induction k with
  | zero => show 0 = _; rw [Nat.div_eq_of_lt hy]
  | succ k ih =>
    show 256 * numTo (pbytes y) k + (g8 (pbytes y) k).toNat = _
    rw [ih (by omega)]
    have h1 : g8 (pbytes y) k = UInt8.ofNat (y / 2 ^ (56 - 8 * k)) := by
      unfold g8 pbytes
      rw [List.getD_eq_getElem?_getD]
      simp [show k < 8 by omega]
    rw [h1, UInt8.toNat_ofNat']
    have e1 : 64 - 8 * k = (56 - 8 * k) + 8 := by omega
    have e2 : 64 - 8 * (k + 1) = 56 - 8 * k := by omega
    rw [e1, e2, Nat.pow_add, ← Nat.div_div_eq_div_mul]
    have : (2 : Nat) ^ 8 = 256 := rfl
    rw [this]
    omega
theorem num_pbytes (y : Nat) (hy : y < 2 ^ 64) : num (pbytes y) = y := by
  unfold num
  rw [num_pbytes_to y 8 (Nat.le_refl _) hy]
  simp
theorem halves (l r : Nat) (hr : r < 4294967296) : (l * 4294967296 ||| r) / 4294967296 = l ∧ (l * 4294967296 ||| r) &&& 4294967295 = r := by
  have e : l * 4294967296 ||| r = l * 4294967296 + r := by
    have := Nat.two_pow_add_eq_or_of_lt (i := 32) (by simpa using hr) l
    rw [Nat.mul_comm l]
    simpa using this.symm
  rw [e]
  refine ⟨by omega, ?_⟩
  have : (4294967295 : Nat) = 2 ^ 32 - 1 := rfl
  rw [this, Nat.and_two_pow_sub_one_eq_mod]
  have : (2 : Nat) ^ 32 = 4294967296 := rfl
  rw [this]
  omega
theorem halves_back (x : Nat) : (x / 4294967296) * 4294967296 ||| (x &&& 4294967295) = x := by
  have e0 : x &&& 4294967295 = x % 4294967296 := by
    have : (4294967295 : Nat) = 2 ^ 32 - 1 := rfl
    rw [this, Nat.and_two_pow_sub_one_eq_mod]
  have hr : x % 4294967296 < 4294967296 := Nat.mod_lt _ (by decide)
  rw [e0]
  have e : (x / 4294967296) * 4294967296 ||| (x % 4294967296) = (x / 4294967296) * 4294967296 + (x % 4294967296) := by
    have := Nat.two_pow_add_eq_or_of_lt (i := 32) (by simpa using hr) (x / 4294967296)
    rw [Nat.mul_comm (x / 4294967296)]
    simpa using this.symm
  rw [e]
  omega
theorem ixOf_not (back : Bool) (j : Nat) (hj : j < 16) : ixOf (!back) j = ixOf back (15 - j) := by
  cases back
  · show 15 - j = 15 - j; rfl
  · show j = 15 - (15 - j); omega
/-- the rounds undone -/
theorem lr_back (ks : List Nat) (back : Bool) (x y : Nat) (hy : y = (lrTo ks back x 16).2 * 4294967296 ||| (lrTo ks back x 16).1) (hx : x < 2 ^ 64) (j : Nat) (hj : j ≤ 16) :
    lrTo ks (!back) y j = ((lrTo ks back x (16 - j)).2, (lrTo ks back x (16 - j)).1) := by
  induction j with
  | zero =>
    have h := halves (lrTo ks back x 16).2 (lrTo ks back x 16).1 (lrTo_lt ks back x hx 16).1
    rw [← hy] at h
    show (y / 4294967296, y &&& 4294967295) = _
    rw [h.1, h.2]
  | succ j ih =>
    have ih := ih (by omega)
    show ((lrTo ks (!back) y j).2, (lrTo ks (!back) y j).1 ^^^ dmix (lrTo ks (!back) y j).2 (gN ks (ixOf (!back) j))) = _
    rw [ih, ixOf_not back j (by omega)]
    obtain ⟨k, hk⟩ : ∃ k, 16 - j = k + 1 := ⟨15 - j, by omega⟩
    have e1 : 16 - (j + 1) = k := by omega
    have e2 : 15 - j = k := by omega
    rw [hk, e1, e2]
    show (_, _) = (_, _)
    have h1 : (lrTo ks back x (k + 1)).1 = (lrTo ks back x k).2 := rfl
    have h2 : (lrTo ks back x (k + 1)).2 = (lrTo ks back x k).1 ^^^ dmix (lrTo ks back x k).2 (gN ks (ixOf back k)) := rfl
    rw [h1, h2, Nat.xor_assoc, Nat.xor_self, Nat.xor_zero]
theorem dblock_back (key b : List UInt8) (back : Bool) (hb : b.length = 8) : dblock key (dblock key b back) (!back) = b := by
  obtain ⟨x, ex⟩ : ∃ x, perm (num b) 64 tabIP = x := ⟨_, rfl⟩
  have hx : x < 2 ^ 64 := by rw [← ex]; exact perm_IP_lt _
  obtain ⟨ks, ek⟩ : ∃ ks, dkeys key = ks := ⟨_, rfl⟩
  obtain ⟨y, ey⟩ : ∃ y, (lrTo ks back x 16).2 * 4294967296 ||| (lrTo ks back x 16).1 = y := ⟨_, rfl⟩
  have hlt := lrTo_lt ks back x hx 16
  have hy : y < 2 ^ 64 := by rw [← ey]; exact (join32 _ _ hlt.2 hlt.1).2
  have e1 : dblock key b back = pbytes (unperm y tabIP) := by unfold dblock; rw [ex, ek, ey]
  have e2 : num (pbytes (unperm y tabIP)) = unperm y tabIP := num_pbytes _ (unperm_IP_lt _)
  rw [e1]
  unfold dblock
  rw [ek, e2, perm_unperm y hy, lr_back ks back x y ey.symm hx 16 (Nat.le_refl _)]
  show pbytes (unperm ((lrTo ks back x 0).1 * 4294967296 ||| (lrTo ks back x 0).2) tabIP) = b
  show pbytes (unperm ((x / 4294967296) * 4294967296 ||| (x &&& 4294967295)) tabIP) = b
  rw [halves_back, ← ex, unperm_perm _ (num_lt b), pbytes_num b hb]
theorem triple3_back (k0 k1 k2 b : List UInt8) (back : Bool) (hb : b.length = 8) : triple3 k2 k1 k0 (triple3 k0 k1 k2 b back) (!back) = b := by
  unfold triple3
  rw [dblock_back k2 _ back (dblock_len _ _ _)]
  have h := dblock_back k1 (dblock k0 b back) (!back) (dblock_len _ _ _)
  rw [h, dblock_back k0 b back hb]
theorem ptriple_back (key b : List UInt8) (back : Bool) (hb : b.length = 8) : ptriple key (ptriple key b back) (!back) = b := by
  unfold ptriple
  by_cases h : key.length = 8
  · rw [if_pos h, if_pos h]; exact dblock_back _ _ _ hb
  · rw [if_neg h, if_neg h]
    cases back
    · exact triple3_back _ _ _ b false hb
    · exact triple3_back _ _ _ b true hb
theorem ptriple_inj (key a b : List UInt8) (back : Bool) (ha : a.length = 8) (hb : b.length = 8) : ptriple key a back = ptriple key b back ↔ a = b :=
  ⟨fun h => by rw [← ptriple_back key a back ha, h, ptriple_back key b back hb], fun h => by rw [h]⟩
theorem dblock_inj (key a b : List UInt8) (back : Bool) (ha : a.length = 8) (hb : b.length = 8) : dblock key a back = dblock key b back ↔ a = b :=
  ⟨fun h => by rw [← dblock_back key a back ha, h, dblock_back key b back hb], fun h => by rw [h]⟩
end Lk
set_option linter.unusedVariables false
set_option linter.unusedSimpArgs false
namespace Lk
theorem xor_cancel (a b c : UInt8) : a ^^^ c = b ^^^ c ↔ a = b := by
  constructor
  · intro h
    have := congrArg (· ^^^ c) h
    simpa [UInt8.xor_assoc] using this
  · intro h; rw [h]
theorem pxor_inj (a b c : List UInt8) (h : a.length = b.length) : pxor a c = pxor b c ↔ a = b := by
  constructor
  · intro e
    refine ext_g8 h fun i hi => ?_
    have := congrArg (fun l => g8 l i) e
    rw [pxor_at _ _ _ hi, pxor_at _ _ _ (by omega)] at this
    exact (xor_cancel _ _ _).1 this
  · intro e; rw [e]
theorem pxor_comm (a b : List UInt8) (h : a.length = b.length) : pxor a b = pxor b a := by
  refine ext_g8 (by rw [pxor_len, pxor_len, h]) fun i hi => ?_
  rw [pxor_len] at hi
  rw [pxor_at _ _ _ hi, pxor_at _ _ _ (by omega), UInt8.xor_comm]
theorem g8_replicate (n i : Nat) : g8 (List.replicate n 0) i = 0 := by
  unfold g8
  rw [List.getD_eq_getElem?_getD, List.getElem?_replicate]
  split <;> rfl
theorem pxor_zero (a : List UInt8) (n : Nat) : pxor a (List.replicate n 0) = a := by
  refine ext_g8 (pxor_len _ _) fun i hi => ?_
  rw [pxor_len] at hi
  rw [pxor_at _ _ _ hi, g8_replicate, UInt8.xor_zero]
theorem turnEnd_one (t s : List UInt8) (h : t.length = s.length) : turnEnd t s = pxor t s := by
  unfold turnEnd
  rw [h, Nat.sub_self, List.take_zero, List.drop_zero, List.nil_append]
theorem pchain_one (kind : Nat) (key t : List UInt8) (h : t.length = psize kind) : pchain kind key t 1 = pdo kind key t false := by
  unfold pchain
  simp only [chTo]
  have : blkAt t (psize kind) 0 = t := by unfold blkAt; rw [Nat.mul_zero, List.drop_zero, List.take_of_length_le (by omega)]
  rw [this, pxor_zero]
theorem pdbl_at (b : List UInt8) (i : Nat) (hi : i < b.length) : g8 (pdbl b) i = ((g8 b i <<< 1) ||| (g8 b (i + 1) >>> 7)) ^^^ (if g8 b 0 &&& 0x80 != 0 ∧ i = b.length - 1 then dturn b.length else 0) := by
  unfold pdbl
  dsimp only
  have e := dblTo_at b b.length i hi
  rw [if_pos hi] at e
  by_cases h : (g8 b 0 &&& 0x80 != 0) = true
  · rw [if_pos h]
    by_cases h2 : i = b.length - 1
    · rw [if_pos ⟨h, h2⟩, ← h2, ← e]
      simp [g8, dblTo_len, hi]
    · rw [if_neg (fun hc => h2 hc.2), UInt8.xor_zero, ← e]
      unfold g8
      rw [List.getD_eq_getElem?_getD, List.getElem?_set_ne (Ne.symm h2), ← List.getD_eq_getElem?_getD]
  · rw [if_neg h, if_neg (fun hc => h hc.1), UInt8.xor_zero, e]
theorem dbl_fix : allB (fun x => (x != (x <<< 1) || x == 0) && (x != (x <<< 1) ^^^ 0x1b || x >>> 7 == 0) && (x != (x <<< 1) ^^^ 0x87 || x >>> 7 == 0) && ((x <<< 1) ^^^ 0x1b != 0) && ((x <<< 1) ^^^ 0x87 != 0) && (x <<< 1 != 0 || x >>> 7 != 0 || x == 0) && (x &&& 0x80 != 0 || x >>> 7 == 0)) = true := by decide +kernel
theorem dbl_facts (x : UInt8) : (x = x <<< 1 → x = 0) ∧ (x = (x <<< 1) ^^^ 0x1b → x >>> 7 = 0) ∧ (x = (x <<< 1) ^^^ 0x87 → x >>> 7 = 0) ∧ (x <<< 1) ^^^ 0x1b ≠ 0 ∧ (x <<< 1) ^^^ 0x87 ≠ 0 ∧ (x <<< 1 = 0 → x >>> 7 = 0 → x = 0) ∧ (x &&& 0x80 = 0 → x >>> 7 = 0) := by
  have := allB_spec dbl_fix x
  simp only [Bool.and_eq_true, Bool.or_eq_true, bne_iff_ne, beq_iff_eq, ne_eq] at this
  obtain ⟨⟨⟨⟨⟨⟨h1, h2⟩, h3⟩, h4⟩, h5⟩, h6⟩, h7⟩ := this
  refine ⟨fun h => ?_, fun h => ?_, fun h => ?_, h4, h5, fun a b => ?_, fun h => ?_⟩
  · exact h1.resolve_left (fun g => g h)
  · exact h2.resolve_left (fun g => g h)
  · exact h3.resolve_left (fun g => g h)
  · rcases h6 with (g | g) | g
    · exact (g a).elim
    · exact (g b).elim
    · exact g
  · exact h7.resolve_left (fun g => g h)
/-- only zeros are their own double -/
theorem pdbl_fix (y : List UInt8) (hy : 2 ≤ y.length) (h : pdbl y = y) : ∀ i, i < y.length → g8 y i = 0 := by
  have hat : ∀ i, i < y.length → g8 y i = ((g8 y i <<< 1) ||| (g8 y (i + 1) >>> 7)) ^^^ (if g8 y 0 &&& 0x80 != 0 ∧ i = y.length - 1 then dturn y.length else 0) := by
    intro i hi
    have := pdbl_at y i hi
    rw [h] at this
    exact this
  have hlast := hat (y.length - 1) (by omega)
  rw [g8_over y (y.length - 1 + 1) (by omega), zero_shr7, or_zero8] at hlast
  have hz7 : g8 y (y.length - 1) >>> 7 = 0 := by
    have hf := dbl_facts (g8 y (y.length - 1))
    by_cases hm : (g8 y 0 &&& 0x80 != 0) = true
    · rw [if_pos ⟨hm, rfl⟩] at hlast
      unfold dturn at hlast
      split at hlast
      · exact hf.2.1 hlast
      · exact hf.2.2.1 hlast
    · rw [if_neg (fun hc => hm hc.1), UInt8.xor_zero] at hlast
      rw [hf.1 hlast]; exact zero_shr7
  have hdown : ∀ j, j + 1 < y.length → g8 y (y.length - 2 - j) = 0 := by
    intro j
    induction j with
    | zero =>
      intro hj
      have := hat (y.length - 2) (by omega)
      rw [if_neg (fun hc => by have := hc.2; omega), UInt8.xor_zero, show y.length - 2 + 1 = y.length - 1 by omega, hz7, or_zero8] at this
      exact (dbl_facts _).1 this
    | succ j ih =>
      intro hj
      have ih := ih (by omega)
      have := hat (y.length - 2 - (j + 1)) (by omega)
      rw [if_neg (fun hc => by have := hc.2; omega), UInt8.xor_zero, show y.length - 2 - (j + 1) + 1 = y.length - 2 - j by omega, ih, zero_shr7, or_zero8] at this
      exact (dbl_facts _).1 this
  have h0 : g8 y 0 = 0 := by
    have := hdown (y.length - 2) (by omega)
    rwa [Nat.sub_self] at this
  intro i hi
  by_cases hl : i = y.length - 1
  · have hm : ¬ (g8 y 0 &&& 0x80 != 0) = true := by rw [h0]; decide
    rw [if_neg (fun hc => hm hc.1), UInt8.xor_zero] at hlast
    rw [hl]; exact (dbl_facts _).1 hlast
  · have := hdown (y.length - 2 - i) (by omega)
    rwa [show y.length - 2 - (y.length - 2 - i) = i by omega] at this
theorem or_eq_zero8 {a b : UInt8} (h : a ||| b = 0) : a = 0 ∧ b = 0 := by
  have := congrArg UInt8.toNat h
  rw [UInt8.toNat_or] at this
  have h2 : a.toNat = 0 ∧ b.toNat = 0 := Nat.or_eq_zero_iff.1 this
  exact ⟨UInt8.toNat_inj.1 h2.1, UInt8.toNat_inj.1 h2.2⟩
/-- what is doubled to zeros is zeros -/
theorem pdbl_zero (y : List UInt8) (hy : 1 ≤ y.length) (h : ∀ i, i < y.length → g8 (pdbl y) i = 0) : ∀ i, i < y.length → g8 y i = 0 := by
  have hat : ∀ i, i < y.length → ((g8 y i <<< 1) ||| (g8 y (i + 1) >>> 7)) ^^^ (if g8 y 0 &&& 0x80 != 0 ∧ i = y.length - 1 then dturn y.length else 0) = 0 := by
    intro i hi
    rw [← pdbl_at y i hi]; exact h i hi
  have hlast := hat (y.length - 1) (by omega)
  rw [g8_over y (y.length - 1 + 1) (by omega), zero_shr7, or_zero8] at hlast
  have hf := dbl_facts (g8 y (y.length - 1))
  have hm : ¬ (g8 y 0 &&& 0x80 != 0) = true := by
    intro hm
    rw [if_pos ⟨hm, rfl⟩] at hlast
    unfold dturn at hlast
    split at hlast
    · exact hf.2.2.2.1 hlast
    · exact hf.2.2.2.2.1 hlast
  have hs : ∀ i, i < y.length → g8 y i <<< 1 = 0 ∧ g8 y (i + 1) >>> 7 = 0 := by
    intro i hi
    have := hat i hi
    rw [if_neg (fun hc => hm hc.1), UInt8.xor_zero] at this
    exact or_eq_zero8 this
  have h7 : ∀ i, i < y.length → g8 y i >>> 7 = 0 := by
    intro i hi
    cases i with
    | zero => exact (dbl_facts _).2.2.2.2.2.2 (by simpa using hm)
    | succ i => exact (hs i (by omega)).2
  intro i hi
  exact (dbl_facts _).2.2.2.2.2.1 (hs i hi).1 (h7 i hi)
theorem zeros_of (y : List UInt8) (h : ∀ i, i < y.length → g8 y i = 0) : y = List.replicate y.length 0 :=
  ext_g8 (by simp) fun i hi => by rw [h i hi, g8_replicate]
theorem needPad_whole (n : Nat) (hn : 0 < n) : needPad n n = false := by
  unfold needPad
  rw [Nat.mod_self]
  simp; omega
theorem needPad_short (l n : Nat) (h : l < n) : needPad l n = true := by
  unfold needPad
  rw [Nat.mod_eq_of_lt h]
  by_cases e : l = 0 <;> simp [e]
theorem psize_pos (kind : Nat) : 0 < psize kind := by unfold psize; split <;> omega
/-- what zeros are enciphered to -/
def pzer (kind : Nat) (key : List UInt8) : List UInt8 := pdo kind key (List.replicate (psize kind) 0) false
theorem pzer_len (kind : Nat) (key : List UInt8) (hk : kind = 1 ∨ kind = 2) : (pzer kind key).length = psize kind := pdo_len _ _ _ _ hk
/-- the code of a block -/
theorem pcmac_whole (kind : Nat) (key a : List UInt8) (hk : kind = 1 ∨ kind = 2) (h : a.length = psize kind) :
    pcmac kind key a = pdo kind key (pxor a (pdbl (pzer kind key))) false := by
  have hl := pzer_len kind key hk
  have e : pfull (psize kind) a (pzer kind key) = pxor a (pdbl (pzer kind key)) := by
    unfold pfull
    rw [h, needPad_whole _ (psize_pos kind)]
    exact turnEnd_one _ _ (by rw [pdbl_len, hl, h])
  show pchain kind key (pfull (psize kind) a (pzer kind key)) ((pfull (psize kind) a (pzer kind key)).length / psize kind) = _
  rw [e, pxor_len, h, Nat.div_self (psize_pos kind)]
  exact pchain_one kind key _ (by rw [pxor_len, h])
/-- the code of less than a block -/
theorem pcmac_short (kind : Nat) (key a : List UInt8) (hk : kind = 1 ∨ kind = 2) (h : a.length < psize kind) :
    pcmac kind key a = pdo kind key (pxor (ppad a (psize kind)) (pdbl (pdbl (pzer kind key)))) false := by
  have hl := pzer_len kind key hk
  have hp := (ppad_short a (psize kind) h).2
  have e : pfull (psize kind) a (pzer kind key) = pxor (ppad a (psize kind)) (pdbl (pdbl (pzer kind key))) := by
    unfold pfull
    rw [needPad_short _ _ h]
    exact turnEnd_one _ _ (by rw [pdbl_len, pdbl_len, hl, hp])
  show pchain kind key (pfull (psize kind) a (pzer kind key)) ((pfull (psize kind) a (pzer kind key)).length / psize kind) = _
  rw [e, pxor_len, hp, Nat.div_self (psize_pos kind)]
  exact pchain_one kind key _ (by rw [pxor_len, hp])
theorem pdo_inj2 (key a b : List UInt8) (back : Bool) (ha : a.length = 8) (hb : b.length = 8) : pdo 2 key a back = pdo 2 key b back ↔ a = b := ptriple_inj key a b back ha hb
/-- P7.3: unlike texts of one block have unlike codes -/
theorem parts_whole (key a b : List UInt8) (ha : a.length = 8) (hb : b.length = 8) : pcmac 2 key a = pcmac 2 key b ↔ a = b := by
  rw [pcmac_whole 2 key a (.inr rfl) ha, pcmac_whole 2 key b (.inr rfl) hb, pdo_inj2 _ _ _ _ (by rw [pxor_len, ha]) (by rw [pxor_len, hb]), pxor_inj _ _ _ (by omega)]
theorem parts_short (key a b : List UInt8) (ha : a.length < 8) (hab : a.length = b.length) : pcmac 2 key a = pcmac 2 key b ↔ a = b := by
  rw [pcmac_short 2 key a (.inr rfl) ha, pcmac_short 2 key b (.inr rfl) (by show _ < 8; omega)]
  have hp := (ppad_short a 8 ha).2
  have hq := (ppad_short b 8 (by omega)).2
  show pdo 2 key (pxor (ppad a 8) _) false = pdo 2 key (pxor (ppad b 8) _) false ↔ _
  rw [pdo_inj2 _ _ _ _ (by rw [pxor_len, hp]) (by rw [pxor_len, hq]), pxor_inj _ _ _ (by omega), ppad_inj _ _ _ hab]
theorem pxor_same (t c d : List UInt8) (hc : c.length = t.length) (hd : d.length = t.length) (h : pxor t c = pxor t d) : c = d := by
  rw [pxor_comm t c hc.symm, pxor_comm t d hd.symm] at h
  exact (pxor_inj c d t (by omega)).1 h
theorem parts_pad (key a : List UInt8) (ha : a.length < 8) (hz : pzer 2 key ≠ List.replicate 8 0) : pcmac 2 key (ppad a 8) ≠ pcmac 2 key a := by
  have hl : (pzer 2 key).length = 8 := pzer_len 2 key (.inr rfl)
  have hp := (ppad_short a 8 ha).2
  rw [pcmac_short 2 key a (.inr rfl) ha, pcmac_whole 2 key (ppad a 8) (.inr rfl) hp]
  show pdo 2 key (pxor (ppad a 8) _) false ≠ pdo 2 key (pxor (ppad a 8) _) false
  intro h
  rw [pdo_inj2 _ _ _ _ (by rw [pxor_len, hp]) (by rw [pxor_len, hp])] at h
  have h2 := pxor_same _ _ _ (by rw [pdbl_len, hl, hp]) (by rw [pdbl_len, pdbl_len, hl, hp]) h
  have h3 := pdbl_fix (pdbl (pzer 2 key)) (by rw [pdbl_len, hl]; decide) h2.symm
  rw [pdbl_len] at h3
  have h4 := zeros_of _ (pdbl_zero (pzer 2 key) (by rw [hl]; decide) h3)
  rw [hl] at h4
  exact hz h4
theorem pretail_short (key a : List UInt8) (ha : a.length < 8) : pretail key a = ptriple (key.take 8) (ptriple (key.drop 8) (ptriple (key.take 8) (ppad a 8) false) true) false := by
  have hp := (ppad_short a 8 ha).2
  unfold pretail
  rw [hp, show 8 / 8 = 1 from rfl, pchain_one 2 _ _ hp]
  rfl
theorem ptriple_len8 (key b : List UInt8) (back : Bool) : (ptriple key b back).length = 8 := ptriple_len key b back
theorem parts_retail (key a b : List UInt8) (ha : a.length < 8) (hab : a.length = b.length) : pretail key a = pretail key b ↔ a = b := by
  have hp := (ppad_short a 8 ha).2
  have hq := (ppad_short b 8 (by omega)).2
  rw [pretail_short _ _ ha, pretail_short _ _ (by omega), ptriple_inj _ _ _ _ (ptriple_len8 _ _ _) (ptriple_len8 _ _ _), ptriple_inj _ _ _ _ (ptriple_len8 _ _ _) (ptriple_len8 _ _ _), ptriple_inj _ _ _ _ hp hq, ppad_inj _ _ _ hab]
end Lk
set_option linter.unusedVariables false
set_option linter.unusedSimpArgs false
namespace Lk
open Go Go.RowKit
theorem SlB.take {w : World} {A : Option Addr} {L c n : Nat} {l : List UInt8} (h : SlB w (.slice A L c) l) (hn : n ≤ l.length) : SlB w (.slice A n c) (l.take n) := by
  obtain ⟨A', c', e, h1, h2, h3, h4⟩ := h
  cases e
  refine ⟨A, c, by rw [List.length_take, Nat.min_eq_left hn], h1, by rw [List.length_take]; omega, h3, fun hc => ?_⟩
  obtain ⟨g, o, rfl, hr⟩ := h4 hc
  refine ⟨g, o, rfl, fun k hk => ?_⟩
  rw [List.length_take] at hk
  rw [hr k (by omega), g8_take _ _ _ (by omega)]
theorem SlB.drop {w : World} {g o L c k : Nat} {l : List UInt8} (h : SlB w (.slice (some ⟨g, o, none⟩) L c) l) (hk : k ≤ l.length) : SlB w (.slice (some ⟨g, o + k, none⟩) (L - k) (c - k)) (l.drop k) := by
  obtain ⟨A', c', e, h1, h2, h3, h4⟩ := h
  cases e
  refine ⟨_, _, by rw [List.length_drop], fun h => (by cases h), by rw [List.length_drop]; omega, by omega, fun hc => ?_⟩
  obtain ⟨g', o', e', hr⟩ := h4 (by omega)
  cases e'
  refine ⟨g, o + k, rfl, fun j hj => ?_⟩
  rw [List.length_drop] at hj
  rw [Nat.add_assoc, hr (k + j) (by omega), g8_drop]
theorem SlB.form {w : World} {v : Value} {l : List UInt8} {L : Nat} (h : SlB w v l) (hL : l.length = L) : ∃ A c, v = .slice A L c := by
  obtain ⟨A, c, e, _⟩ := h
  exact ⟨A, c, by rw [e, hL]⟩
theorem Own.cell {w : World} {base g L c : Nat} {l : List UInt8} (h : Own w base (.slice (some ⟨g, 0, none⟩) L c) l) (k : Nat) (hk : k < l.length) : w.cell? ⟨g, k, none⟩ = some (.int .u8 (bv (g8 l k))) := by
  have e : L = l.length := h.len
  subst e
  have := World.ownsRow.cellAt (h := h) k (by omega)
  rw [this]; exact Bl_get' l k hk
theorem Own.free {w : World} {base g L c : Nat} {l : List UInt8} (h : Own w base (.slice (some ⟨g, 0, none⟩) L c) l) (k : Nat) : w.frozen? ⟨g, k, none⟩ = false := by
  have e : L = l.length := h.len
  subst e
  exact World.ownsRow.frozenAt (h := h) k
theorem pchain_len (kind : Nat) (key t : List UInt8) (m : Nat) (hk : kind = 1 ∨ kind = 2) : (pchain kind key t m).length = psize kind := chTo_last kind key _ t m hk (List.length_replicate ..)
theorem pcmac_len (kind : Nat) (key t : List UInt8) (hk : kind = 1 ∨ kind = 2) : (pcmac kind key t).length = psize kind := pchain_len kind key _ _ hk
theorem Own.slB' {w : World} {base : Nat} {v : Value} {l : List UInt8} (h : Own w base v l) : SlB w v l := h.slB
end Lk
namespace Go.Proofs.YtbbfjlnkhenbiaaDoor
open Go.RowKit Lk
theorem Do_sz (q vb : Value) (B kind sz : Nat) (key b : List UInt8) (back : Bool) (w : World) (hk : kind = 1 ∨ kind = 2) (h : Cip w B q kind key) (hB : B ≤ w.heap.size) (hf : pfits kind key.length = true) (hs : SlB w vb b) (hb : b.length = sz) (hz : psize kind = sz) :
    Calls Tryd.prog 17 #[q, vb, .bool back] w fun e w' => ∃ g, e = .returned (.tuple #[.slice (some ⟨g, 0, none⟩) sz sz, .nilIface]) ∧ SlB w' (.slice (some ⟨g, 0, none⟩) sz sz) (pdo kind key b back) ∧ w.heap.size ≤ g ∧ g < w'.heap.size ∧ Below w.heap.size w w' :=
  (Do_any q vb B kind key b back w hk h hB hf hs (hb.trans hz.symm)).mono fun e w' ⟨v', he, ⟨g, T, _, e1, hg, hBk⟩, hL⟩ => by
    have hl : (pdo kind key b back).length = sz := by rw [pdo_len _ _ _ _ hk, hz]
    have hps := psize_le kind
    rw [hz] at hps
    have hs : SlB w' (.slice (some ⟨g, 0, none⟩) sz sz) (pdo kind key b back) := New.slB (base := 0) ⟨g, T, by rw [hl], Nat.zero_le _, hBk⟩ (by rw [hl]; rcases hps with e | e <;> rw [e] <;> decide)
    exact ⟨g, by rw [he, e1, hl], hs, hg, hBk.lt, hL⟩
end Go.Proofs.YtbbfjlnkhenbiaaDoor
set_option linter.unusedVariables false
set_option linter.unusedSimpArgs false
namespace Go.Proofs.YtbbfjlnkhenbiaaDoor
open Go.RowKit Lk
theorem New_aes (v : Value) (key : List UInt8) (w : World) (hf : pfits 1 key.length = true) (h : SlB w v key) : Calls Tryd.prog 12 #[.int .i64 (1 : Int), v, .pointer none] w (Newed w 1 key) := New_any v none 1 key w (.inl rfl) hf h
theorem New_tdes (v : Value) (key : List UInt8) (w : World) (hf : pfits 2 key.length = true) (h : SlB w v key) : Calls Tryd.prog 12 #[.int .i64 (2 : Int), v, .pointer none] w (Newed w 2 key) := New_any v none 2 key w (.inr rfl) hf h
end Go.Proofs.YtbbfjlnkhenbiaaDoor
set_option linter.unusedVariables false
set_option linter.unusedSimpArgs false
namespace Lk
open Go Go.RowKit
section
variable {P : Program}
theorem run_eqItems_bs (w : World) (d : Nat) {e : TypeId} (he : P.underlying e = some (.int .u8)) (hc : P.cellsOf e = 1) (a b : List UInt8) : ∀ is : List Nat, (∀ i ∈ is, i < a.length ∧ i < b.length) →
    (Op.eqItems (d + 1) e (P.cellsOf e) (Bs a) (Bs b) is).run P w = .ok (is.all fun i => g8 a i == g8 b i) w
  | [], _ => by simp [Op.eqItems]
  | i :: is, h => by
    have hp : P.plainKey e = true := by unfold Program.plainKey; rw [he]
    have h1 := (h i (by simp)).1
    have h2 := (h i (by simp)).2
    have p1 := run_part_plain (P := P) w hp (xs := Bs a) (off := i) (Bs_get a i h1)
    have p2 := run_part_plain (P := P) w hp (xs := Bs b) (off := i) (Bs_get b i h2)
    have e1 : i * P.cellsOf e = i := by rw [hc, Nat.mul_one]
    have p3 : (Op.equalIn (d + 1) e (.int .u8 (bv (g8 a i))) (.int .u8 (bv (g8 b i)))).run P w = .ok (g8 a i == g8 b i) w := by
      simp [Op.equalIn, run_underlying he, bv_eq]
    simp only [Op.eqItems, Sem.run_bind, e1, p1, p2, p3, Result.andThen_ok]
    cases hb : (g8 a i == g8 b i)
    · simp [hb]
    · have := run_eqItems_bs w d he hc a b is (fun j hj => h j (by simp [hj]))
      simp [hb, this]
theorem run_eql_bs (w : World) {t e : TypeId} {n : Nat} (a b : List UInt8) (hu : P.underlying t = some (.array n e)) (he : P.underlying e = some (.int .u8)) (hc : P.cellsOf e = 1) (hi : (P.info? e).isSome = true) (ha : a.length = n) (hb : b.length = n) :
    (binOp .eql t (.agg (Bs a)) (.agg (Bs b))).run P w = .ok (.bool (a == b)) w := by
  obtain ⟨i, hi⟩ := Option.isSome_iff_exists.1 hi
  have h := run_equalIn_array (P := P) w 9999 (Bs a) (Bs b) hu hi
  rw [run_eqItems_bs w 9998 he hc a b (List.range n) (fun j hj => by have := List.mem_range.1 hj; omega)] at h
  have e : ((List.range n).all fun i => g8 a i == g8 b i) = (a == b) := by
    rw [Bool.eq_iff_iff, List.all_eq_true, beq_iff_eq]
    constructor
    · intro h
      exact same_ext (by omega) (fun i hi => by simpa using h i (List.mem_range.2 (by omega)))
    · intro h i hi; rw [h]; simp
  rw [e] at h
  simp [binOp, Op.equal, Op.maxDepth, h]
end
end Lk
set_option linter.unusedVariables false
set_option linter.unusedSimpArgs false
namespace Lk
open Go Go.RowKit
theorem Cip.next {w w1 : World} {q : Value} {kind : Nat} {key : List UInt8} (h : Cip w w.heap.size q kind key) (hL : Below w.heap.size w w1) : Cip w1 w1.heap.size q kind key := (h.below hL (Nat.le_refl _)).more hL.size
theorem Rd.under3 {w w1 : World} {g o : Nat} {l : List UInt8} (h : Rd w g o l) (hL : Below w.heap.size w w1) : Rd w1 g o l := fun k hk => by
  have := h k hk
  rw [hL.cell (block_of_cell this)]; exact this
theorem Blk.rd0 {w : World} {g T : Nat} {l : List UInt8} (h : Blk w g T l) : Rd w g 0 l := fun k hk => by rw [Nat.zero_add]; exact h.cell k hk
theorem Blk.slB {w : World} {g T : Nat} {l : List UInt8} {n : Nat} (h : Blk w g T l) (hl : l.length = n) (hm : n ≤ maxLen) : SlB w (.slice (some ⟨g, 0, none⟩) n n) l :=
  New.slB (base := 0) ⟨g, T, by rw [hl], Nat.zero_le _, h⟩ (by rw [hl]; exact hm)
/-- the first n bytes of an array -/
theorem Blk.slTo {w : World} {g T : Nat} {l : List UInt8} {n m : Nat} (h : Blk w g T l) (hl : l.length = m) (hm : m ≤ 1000000) (hn : n ≤ m) : SlB w (.slice (some ⟨g, 0, none⟩) n m) (l.take n) := by
  have h1 := h.slB hl (by unfold maxLen; omega)
  refine ⟨_, m, by rw [List.length_take, hl, Nat.min_eq_left hn], fun h => (by cases h), by rw [List.length_take, hl]; omega, by unfold maxLen; omega, fun _ => ⟨g, 0, rfl, fun k hk => ?_⟩⟩
  rw [List.length_take] at hk
  rw [Nat.zero_add, h.cell k (by omega)]
  have : g8 (l.take n) k = g8 l k := by simp [g8, List.getElem?_take, show k < n by omega]
  rw [this]
theorem SlB.formc {w : World} {v : Value} {l : List UInt8} {L : Nat} (h : SlB w v l) (hL : l.length = L) : ∃ A c, v = .slice A L c ∧ L ≤ c := by
  obtain ⟨A, c, e, _, h2, _⟩ := h
  exact ⟨A, c, by rw [e, hL], by omega⟩
theorem Own.under {w w1 : World} {base : Nat} {v : Value} {l : List UInt8} (h : Own w base v l) (hL : Below w.heap.size w w1) : Own w1 base v l :=
  h.kept (row := none) (grown_of_below hL none) (by cases h : v.ownBlock with
    | none => exact .inl rfl
    | some k => exact .inr (by simp))
theorem lit_slB (w : World) (l : List UInt8) (n : Nat) (hl : l.length = n) (hn : n ≤ maxLen) : SlB (w.alloc (.cells (Bs l) u8t)) (.slice (some ⟨w.heap.size, 0, none⟩) n n) l :=
  New.slB (base := 0) ⟨w.heap.size, u8t, by rw [hl], Nat.zero_le _, heap_alloc_new w _⟩ (by rw [hl]; exact hn)
/-- the first k bytes turned by 255 -/
def notTo (l : List UInt8) (k : Nat) : List UInt8 := (List.range l.length).map fun i => if i < k then g8 l i ^^^ 255 else g8 l i
theorem notTo_len (l : List UInt8) (k : Nat) : (notTo l k).length = l.length := by simp [notTo]
theorem notTo_zero (l : List UInt8) : notTo l 0 = l := by
  refine same_ext (notTo_len _ _) fun i hi => ?_
  rw [notTo_len] at hi
  simp [notTo, g8, hi]
theorem notTo_at (l : List UInt8) (k i : Nat) (hi : i < l.length) : g8 (notTo l k) i = if i < k then g8 l i ^^^ 255 else g8 l i := by
  simp only [g8, notTo, List.getD_eq_getElem?_getD, List.getElem?_map, List.getElem?_range hi, Option.map_some, Option.getD_some]
theorem notTo_set (l : List UInt8) (k : Nat) (hk : k < l.length) : (notTo l k).set k (g8 l k ^^^ 255) = notTo l (k + 1) := by
  apply List.ext_getElem
  · simp [notTo]
  · intro i h1 h2
    rw [List.getElem_set]
    simp only [notTo, List.getElem_map, List.getElem_range]
    by_cases h : k = i
    · subst h; simp
    · by_cases h' : i < k
      · rw [if_neg h, if_pos h', if_pos (by omega)]
      · rw [if_neg h, if_neg h', if_neg (by omega)]
theorem slB_nil (w : World) : SlB w (.slice none 0 0) [] := ⟨none, 0, rfl, fun _ => rfl, Nat.le_refl _, Nat.zero_le _, fun h => by omega⟩
theorem Drawn.below0 {w w' : World} (h : Drawn w w') : Below w.heap.size w w' := by
  obtain ⟨n, rfl⟩ := h
  exact ⟨rfl, rfl, rfl, Nat.le_refl _, fun _ _ => rfl⟩
theorem below_alloc {w w1 : World} {B : Nat} (h : Below B w w1) (hB : B ≤ w1.heap.size) (o : Obj) : Below B w (w1.alloc o) := below_none h hB (grown_alloc (grown_refl _ _) o)
end Lk
set_option linter.unusedVariables false
set_option linter.unusedSimpArgs false
namespace Lk
open Go Go.RowKit
def RdV (w : World) (g o : Nat) (xs : List Value) : Prop := ∀ k x, xs[k]? = some x → w.cell? ⟨g, o + k, none⟩ = some x
def SlV (w : World) (v : Value) (xs : List Value) : Prop :=
  ∃ A c, v = .slice A xs.length c ∧ (A = none → c = 0) ∧ xs.length ≤ c ∧ c ≤ maxLen ∧ (0 < c → ∃ g o, A = some ⟨g, o, none⟩ ∧ RdV w g o xs)
def OwnV (w : World) (base E : Nat) (v : Value) (xs : List Value) : Prop := w.ownsRow base E 1 v xs.length xs
theorem OwnV.slV {w : World} {base E : Nat} {v : Value} {xs : List Value} (h : OwnV w base E v xs) : SlV w v xs := by
  rcases h.2 with ⟨rfl, h0⟩ | ⟨g, cap, cur, rfl, hb, hg, h1, h2, h3, h4⟩
  · have : xs = [] := List.eq_nil_of_length_eq_zero h0
    subst this
    exact ⟨none, 0, rfl, fun _ => rfl, Nat.le_refl _, Nat.zero_le _, fun h => by omega⟩
  · refine ⟨_, cap, rfl, fun h => (by cases h), h1, h2, fun _ => ⟨g, 0, rfl, fun k x hk => ?_⟩⟩
    rw [Nat.zero_add]
    have hl : k < xs.length := (List.getElem?_eq_some_iff.1 hk).1
    have := World.ownsRow.cellAt (h := h) k (by omega)
    rw [this]; exact hk
theorem OwnV.lt {w : World} {base E : Nat} {v : Value} {xs : List Value} (h : OwnV w base E v xs) : ∀ k, v.ownBlock = some k → base ≤ k ∧ k < w.heap.size := World.ownsRow.lt h
theorem OwnV.kept {w w' : World} {base E : Nat} {v : Value} {xs : List Value} {row : Option Nat} (h : OwnV w base E v xs) (hg : w.grownBy w' row) (hne : v.ownBlock = none ∨ v.ownBlock ≠ row) : OwnV w' base E v xs := World.ownsRow.kept h hg hne
theorem OwnV.alloc {w : World} {base E : Nat} {v : Value} {xs : List Value} (h : OwnV w base E v xs) (o : Obj) : OwnV (w.alloc o) base E v xs := World.ownsRow.alloc h o
theorem OwnV.drewN {w : World} {base E : Nat} {v : Value} {xs : List Value} (h : OwnV w base E v xs) (n : Nat) : OwnV (w.drewN n) base E v xs := h
theorem OwnV.lower {w : World} {base base' E : Nat} {v : Value} {xs : List Value} (h : OwnV w base E v xs) (hb : base' ≤ base) : OwnV w base' E v xs :=
  ⟨h.1, h.2.imp id fun ⟨g, cap, cur, e, hg, r⟩ => ⟨g, cap, cur, e, Nat.le_trans hb hg, r⟩⟩
theorem OwnV.under {w w1 : World} {base E : Nat} {v : Value} {xs : List Value} (h : OwnV w base E v xs) (hL : Below w.heap.size w w1) : OwnV w1 base E v xs :=
  ⟨h.1, h.2.imp id fun ⟨g, cap, cur, e, hg, r, s⟩ => ⟨g, cap, cur, e, hg, by
    have hlt : g < w.heap.size := (Array.getElem?_eq_some_iff.1 r).1
    rw [hL.block g hlt]; exact r, s⟩⟩
theorem OwnV.form {w : World} {base E : Nat} {v : Value} {xs : List Value} (h : OwnV w base E v xs) (hl : 0 < xs.length) : ∃ g cap, v = .slice (some ⟨g, 0, none⟩) xs.length cap ∧ base ≤ g ∧ g < w.heap.size ∧ RdV w g 0 xs ∧ xs.length ≤ cap ∧ cap ≤ maxLen := by
  obtain ⟨A, c, rfl, h1, h2, h3, h4⟩ := h.slV
  obtain ⟨g, o, rfl, hr⟩ := h4 (by omega)
  rcases h.2 with ⟨e, _⟩ | ⟨g', cap, cur, e, hb, hg, _⟩
  · cases e
  · cases e
    exact ⟨g, c, rfl, hb, (Array.getElem?_eq_some_iff.1 hg).1, hr, h2, h3⟩
theorem OwnV.formc {w : World} {base E : Nat} {v : Value} {xs : List Value} {L : Nat} (h : OwnV w base E v xs) (hl : xs.length = L) : ∃ A c, v = .slice A L c ∧ L ≤ c ∧ c ≤ maxLen := by
  obtain ⟨A, c, rfl, h1, h2, h3, h4⟩ := h.slV
  exact ⟨A, c, by rw [hl], by omega, h3⟩
theorem SlV.formc {w : World} {v : Value} {xs : List Value} {L : Nat} (h : SlV w v xs) (hl : xs.length = L) : ∃ A c, v = .slice A L c ∧ L ≤ c ∧ c ≤ maxLen := by
  obtain ⟨A, c, rfl, h1, h2, h3, h4⟩ := h
  exact ⟨A, c, by rw [hl], by omega, h3⟩
theorem SlV.below {w w1 : World} {v : Value} {xs : List Value} (h : SlV w v xs) (hG : Below w.heap.size w w1) : SlV w1 v xs := by
  obtain ⟨A, c, rfl, h1, h2, h3, h4⟩ := h
  refine ⟨A, c, rfl, h1, h2, h3, fun hc => ?_⟩
  obtain ⟨g, o, rfl, hr⟩ := h4 hc
  refine ⟨g, o, rfl, fun k x hk => ?_⟩
  have := hr k x hk
  rw [hG.cell (block_of_cell this)]
  exact this
theorem SlV.drewN {w : World} {v : Value} {xs : List Value} (h : SlV w v xs) (n : Nat) : SlV (w.drewN n) v xs := h
theorem SlV.alloc {w : World} {v : Value} {xs : List Value} (h : SlV w v xs) (o : Obj) : SlV (w.alloc o) v xs := h.below ((Below.refl _ _).alloc (Nat.le_refl _) _)
theorem SlV.old {w w1 : World} {v : Value} {xs : List Value} (h : SlV w v xs) {row : Option Nat} (hG : w.grownBy w1 row) (hne : v.ownBlock = none ∨ v.ownBlock ≠ row) : SlV w1 v xs := by
  obtain ⟨A, c, rfl, h1, h2, h3, h4⟩ := h
  refine ⟨A, c, rfl, h1, h2, h3, fun hc => ?_⟩
  obtain ⟨g, o, rfl, hr⟩ := h4 hc
  refine ⟨g, o, rfl, fun k x hk => cell_old (hr k x hk) hG ?_⟩
  rcases hne with h | h
  · simp [Value.ownBlock] at h
  · exact fun e => h (by rw [e]; rfl)
/-- a cell of a slice that is read -/
theorem SlV.cell {w : World} {g o L c : Nat} {xs : List Value} (h : SlV w (.slice (some ⟨g, o, none⟩) L c) xs) (k : Nat) (x : Value) (hx : xs[k]? = some x) : w.cell? ⟨g, o + k, none⟩ = some x := by
  obtain ⟨A, c', e, h1, h2, h3, h4⟩ := h
  have hl : k < xs.length := (List.getElem?_eq_some_iff.1 hx).1
  cases e
  obtain ⟨g', o', e, hr⟩ := h4 (by omega)
  cases e
  exact hr k x hx
theorem SlV.take {w : World} {A : Option Addr} {L c n : Nat} {xs : List Value} (h : SlV w (.slice A L c) xs) (hn : n ≤ xs.length) : SlV w (.slice A n c) (xs.take n) := by
  obtain ⟨A', c', e, h1, h2, h3, h4⟩ := h
  cases e
  refine ⟨A, c, by rw [List.length_take_of_le hn], h1, by rw [List.length_take_of_le hn]; omega, h3, fun hc => ?_⟩
  obtain ⟨g, o, e, hr⟩ := h4 hc
  exact ⟨g, o, e, fun k x hk => hr k x (by rw [List.getElem?_take] at hk; split at hk <;> simp_all)⟩
theorem SlV.drop {w : World} {g o L c k : Nat} {xs : List Value} (h : SlV w (.slice (some ⟨g, o, none⟩) L c) xs) (hk : k ≤ xs.length) : SlV w (.slice (some ⟨g, o + k, none⟩) (L - k) (c - k)) (xs.drop k) := by
  obtain ⟨A', c', e, h1, h2, h3, h4⟩ := h
  cases e
  refine ⟨_, c - k, by rw [List.length_drop], fun h => (by cases h), by rw [List.length_drop]; omega, by omega, fun hc => ?_⟩
  obtain ⟨g', o', e, hr⟩ := h4 (by omega)
  cases e
  exact ⟨g, o + k, rfl, fun j x hj => by
    rw [Nat.add_assoc]
    exact hr (k + j) x (by rw [List.getElem?_drop] at hj; exact hj)⟩
theorem ownV_nil (w : World) (base E : Nat) : OwnV w base E (.slice none 0 0) [] := ⟨rfl, .inl ⟨rfl, rfl⟩⟩
theorem ownV_lit0 (w : World) (base E : Nat) (hb : base ≤ w.heap.size) : OwnV (w.alloc (.cells #[] E)) base E (.slice (some ⟨w.heap.size, 0, none⟩) 0 0) [] :=
  ⟨rfl, .inr ⟨w.heap.size, 0, #[], rfl, hb, heap_alloc_new w _, Nat.le_refl _, Nat.zero_le _, rfl, rfl⟩⟩
/-- a literal that has just been laid -/
theorem slV_lit (w : World) (xs : List Value) (n E : Nat) (hl : xs.length = n) (hn : n ≤ maxLen) : SlV (w.alloc (.cells xs.toArray E)) (.slice (some ⟨w.heap.size, 0, none⟩) n n) xs := by
  refine ⟨_, n, by rw [hl], fun h => (by cases h), by omega, hn, fun _ => ⟨w.heap.size, 0, rfl, fun k x hk => ?_⟩⟩
  rw [Nat.zero_add]
  have : (w.alloc (.cells xs.toArray E)).heap[w.heap.size]? = some (.cells xs.toArray E (0, 0)) := heap_alloc_new w _
  unfold World.cell?
  rw [this]
  simpa using hk
theorem one_slV (w : World) (x : Value) (E : Nat) : SlV (w.alloc (.cells #[x] E)) (.slice (some ⟨w.heap.size, 0, none⟩) 1 1) [x] := slV_lit w [x] 1 E rfl (by decide)
section
variable {P : Program} {ops : Array Oper} {rest : List Oper} {o : Oper} {a : Act} {w : World} {Q : Exit → Act → World → Prop}
theorem append_v {S E B : Nat} {z : Value} (hu : P.underlying S = some (.slice E)) (hinfo : (P.info? E).map (fun i => (i.zero, i.size, i.bytes)) = some (some z, 1, B)) (hB1 : 1 ≤ B) (hB2 : B ≤ 100) (hz1 : z.cells.size = 1) (hgd : o.guard = none) (s x : Operand)
    (ho : o.op = .call { callee := .builtin .append, args := #[s, x], argTypes := #[S, S] }) (base : Nat) (v : Value) (l : List Value) (hs : a.eval s = v) (hown : OwnV w base E v l)
    (v2 : Value) (m : List Value) (hx : a.eval x = v2) (hm : SlV w v2 m) (hone : ∀ u ∈ m, u.oneCell' = true) (hlen : l.length + m.length ≤ 1407374883553) (hbase : base ≤ w.heap.size)
    (h : ∀ v' w', OwnV w' base E v' (l ++ m) → w.grownBy w' v.ownBlock → wpList P ops Q rest (a.put o.dst v') w') : wpList P ops Q (o :: rest) a w := by
  obtain ⟨i, hi, hz, h1, h2⟩ := info_parts hinfo
  obtain ⟨A, c, rfl, n1, n2, n3, n4⟩ := hm
  cases A with
  | none =>
    obtain rfl := n1 rfl
    have hm0 : m = [] := List.eq_nil_of_length_eq_zero (by omega)
    subst hm0
    refine wpList_append_own_none hgd s x S ho base E i 1 hu hi v l.length l hs hown hx ?_
    rw [List.append_nil] at h
    exact h v w hown (World.grownBy.refl _ _)
  | some ad =>
    have hnews : ∀ j u, m[j]? = some u → w.cell? (ad.add j) = some u := by
      intro j u hj
      have hjl : j < m.length := (List.getElem?_eq_some_iff.1 hj).1
      obtain ⟨g, o', e, hr⟩ := n4 (by omega)
      cases e
      have : (⟨g, o', none⟩ : Addr).add j = ⟨g, o' + j, none⟩ := by unfold Addr.add; split <;> simp_all
      rw [this]
      exact hr j u hj
    refine wpList_append_own w hgd s x S ho base E i z 1 B hu hi hz h1 h2 hz1 (by decide) v l.length l hs hown ad m.length c m hx (by rw [Nat.mul_one]) hnews hone (by unfold maxLen; omega) (by
      have : (l.length + m.length) * B ≤ 1407374883553 * 100 := Nat.mul_le_mul hlen hB2
      omega) hbase ?_
    intro v' w' h3 h4 _
    refine h v' w' ?_ h4
    unfold OwnV
    rw [List.length_append]
    exact h3
end
/-- whole numbers in a slice -/
def Is (l : List Int) : List Value := l.map fun n => Value.int .i64 n
theorem Is_len (l : List Int) : (Is l).length = l.length := by simp [Is]
theorem Is_app (l m : List Int) : Is (l ++ m) = Is l ++ Is m := by simp [Is]
theorem Is_get (l : List Int) (k : Nat) (h : k < l.length) : (Is l)[k]? = some (.int .i64 (l.getD k 0)) := by
  unfold Is
  rw [List.getElem?_map, List.getElem?_eq_getElem h]
  simp [List.getD_eq_getElem?_getD, List.getElem?_eq_getElem h]
theorem Is_one (l : List Int) : ∀ u ∈ Is l, u.oneCell' = true := by
  intro u hu
  obtain ⟨n, _, rfl⟩ := List.mem_map.1 hu
  rfl
/-- slices of bytes in a slice -/
def SlSl (w : World) (v : Value) (ls : List (List UInt8)) : Prop := ∃ vs : List Value, SlV w v vs ∧ vs.length = ls.length ∧ ∀ (k : Nat) (l : List UInt8), ls[k]? = some l → ∃ u, vs[k]? = some u ∧ SlB w u l
theorem SlSl.below {w w1 : World} {v : Value} {ls : List (List UInt8)} (h : SlSl w v ls) (hL : Below w.heap.size w w1) : SlSl w1 v ls := by
  obtain ⟨vs, h1, h2, h3⟩ := h
  exact ⟨vs, h1.below hL, h2, fun k l hk => by obtain ⟨u, hu, hs⟩ := h3 k l hk; exact ⟨u, hu, hs.below hL⟩⟩
end Lk
namespace Go.Proofs.YtbbfjlnkhenbiaaDoor
open Lk
def intt : Nat := 3
def islt : Nat := 74
theorem hu_isl : Tryd.prog.underlying islt = some (.slice intt) := by kernel_rfl
theorem hi_int : (Tryd.prog.info? intt).map (fun i => (i.zero, i.size, i.bytes)) = some (some (.int .i64 0), 1, 8) := by kernel_rfl
end Go.Proofs.YtbbfjlnkhenbiaaDoor
