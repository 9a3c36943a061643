/- AES, undone: what is enciphered, and deciphered, is what it was, and the other way round. -/
import Derived.Test.YtjbdhnmkeaogcaaAes
set_option linter.unusedVariables false
set_option linter.unusedSimpArgs false
namespace Lk
open Go.Proofs.Ytjbdhnmkeaogcaa
theorem ext_g8 {a b : List UInt8} (h : a.length = b.length) (hi : ∀ i, i < a.length → g8 a i = g8 b i) : a = b := by
  apply List.ext_getElem h
  intro i h1 h2
  have := hi i h1
  simpa [g8, h1, h2] using this
theorem pwith_at (b ws : List UInt8) (r i : Nat) (hi : i < 16) : g8 (pwith b ws r) i = g8 b i ^^^ g8 ws (16 * r + i) := by
  unfold pwith; rw [upd_at _ _ _ _ hi, if_pos hi]
theorem prows_at (b : List UInt8) (t i : Nat) (hi : i < 16) : g8 (prows b t) i = g8 b ((i + 4 * (i % 4) * t) % 16) := by
  unfold prows; rw [upd_at _ _ _ _ hi, if_pos hi]; rfl
theorem pboxes_at (f : UInt8 → UInt8) (b : List UInt8) (i : Nat) (hi : i < 16) : g8 (pboxes f b) i = f (g8 b i) := by
  unfold pboxes; rw [upd_at _ _ _ _ hi, if_pos hi]
theorem pcols_at (m b : List UInt8) (c s : Nat) (hc : c % 4 = 0) (hs : s < 4) (h : c + s < 16) :
    g8 (pcols m b) (c + s) = ((gmul (g8 m 0) (g8 b (c + s)) ^^^ gmul (g8 m 1) (g8 b (c + (s + 1) % 4))) ^^^ gmul (g8 m 2) (g8 b (c + (s + 2) % 4))) ^^^ gmul (g8 m 3) (g8 b (c + (s + 3) % 4)) := by
  unfold pcols
  rw [upd_at _ _ _ _ h, if_pos h]
  have e1 : (c + s) / 4 * 4 = c := by omega
  have e2 : (c + s) % 4 = s := by omega
  have e3 : (s + 0) % 4 = s := by omega
  simp only [colTo, e1, e2, e3, UInt8.zero_xor]
theorem pwith_twice (b ws : List UInt8) (r : Nat) (hb : b.length = 16) : pwith (pwith b ws r) ws r = b := by
  refine ext_g8 (by rw [pwith_len, hb]) fun i hi => ?_
  rw [pwith_len] at hi
  rw [pwith_at _ _ _ _ hi, pwith_at _ _ _ _ hi, UInt8.xor_assoc, UInt8.xor_self, UInt8.xor_zero]
theorem prows_back (b : List UInt8) (hb : b.length = 16) (s t : Nat) (hst : (s = 1 ∧ t = 3) ∨ (s = 3 ∧ t = 1)) : prows (prows b s) t = b := by
  refine ext_g8 (by rw [prows_len, hb]) fun i hi => ?_
  rw [prows_len] at hi
  rw [prows_at _ _ _ hi, prows_at _ _ _ (Nat.mod_lt _ (by decide))]
  have : ((i + 4 * (i % 4) * t) % 16 + 4 * ((i + 4 * (i % 4) * t) % 16 % 4) * s) % 16 = i := by
    rcases hst with ⟨rfl, rfl⟩ | ⟨rfl, rfl⟩ <;> omega
  rw [this]
theorem pboxes_back (f g : UInt8 → UInt8) (h : ∀ x, g (f x) = x) (b : List UInt8) (hb : b.length = 16) : pboxes g (pboxes f b) = b := by
  refine ext_g8 (by rw [pboxes_len, hb]) fun i hi => ?_
  rw [pboxes_len] at hi
  rw [pboxes_at _ _ _ hi, pboxes_at _ _ _ hi, h]
/-- four products' sums, grouped by what is multiplied -/
theorem mix_group (m n : List UInt8) (x0 x1 x2 x3 : UInt8)
    (h0 : ((gmul (g8 n 0) (g8 m 0) ^^^ gmul (g8 n 1) (g8 m 3)) ^^^ gmul (g8 n 2) (g8 m 2)) ^^^ gmul (g8 n 3) (g8 m 1) = 1)
    (h1 : ((gmul (g8 n 0) (g8 m 1) ^^^ gmul (g8 n 1) (g8 m 0)) ^^^ gmul (g8 n 2) (g8 m 3)) ^^^ gmul (g8 n 3) (g8 m 2) = 0)
    (h2 : ((gmul (g8 n 0) (g8 m 2) ^^^ gmul (g8 n 1) (g8 m 1)) ^^^ gmul (g8 n 2) (g8 m 0)) ^^^ gmul (g8 n 3) (g8 m 3) = 0)
    (h3 : ((gmul (g8 n 0) (g8 m 3) ^^^ gmul (g8 n 1) (g8 m 2)) ^^^ gmul (g8 n 2) (g8 m 1)) ^^^ gmul (g8 n 3) (g8 m 0) = 0) :
    ((gmul (g8 n 0) (((gmul (g8 m 0) x0 ^^^ gmul (g8 m 1) x1) ^^^ gmul (g8 m 2) x2) ^^^ gmul (g8 m 3) x3)
      ^^^ gmul (g8 n 1) (((gmul (g8 m 0) x1 ^^^ gmul (g8 m 1) x2) ^^^ gmul (g8 m 2) x3) ^^^ gmul (g8 m 3) x0))
      ^^^ gmul (g8 n 2) (((gmul (g8 m 0) x2 ^^^ gmul (g8 m 1) x3) ^^^ gmul (g8 m 2) x0) ^^^ gmul (g8 m 3) x1))
      ^^^ gmul (g8 n 3) (((gmul (g8 m 0) x3 ^^^ gmul (g8 m 1) x0) ^^^ gmul (g8 m 2) x1) ^^^ gmul (g8 m 3) x2) = x0 := by
  have e0 := congrArg (fun c => gmul c x0) h0
  have e1 := congrArg (fun c => gmul c x1) h1
  have e2 := congrArg (fun c => gmul c x2) h2
  have e3 := congrArg (fun c => gmul c x3) h3
  simp only [gmul_xor_left, one_gmul, gmul_zero_left] at e0 e1 e2 e3
  simp only [gmul_xor_right, gmul_assoc]
  generalize gmul (gmul (g8 n 0) (g8 m 0)) x0 = a00 at *
  generalize gmul (gmul (g8 n 1) (g8 m 3)) x0 = a01 at *
  generalize gmul (gmul (g8 n 2) (g8 m 2)) x0 = a02 at *
  generalize gmul (gmul (g8 n 3) (g8 m 1)) x0 = a03 at *
  generalize gmul (gmul (g8 n 0) (g8 m 1)) x1 = a10 at *
  generalize gmul (gmul (g8 n 1) (g8 m 0)) x1 = a11 at *
  generalize gmul (gmul (g8 n 2) (g8 m 3)) x1 = a12 at *
  generalize gmul (gmul (g8 n 3) (g8 m 2)) x1 = a13 at *
  generalize gmul (gmul (g8 n 0) (g8 m 2)) x2 = a20 at *
  generalize gmul (gmul (g8 n 1) (g8 m 1)) x2 = a21 at *
  generalize gmul (gmul (g8 n 2) (g8 m 0)) x2 = a22 at *
  generalize gmul (gmul (g8 n 3) (g8 m 3)) x2 = a23 at *
  generalize gmul (gmul (g8 n 0) (g8 m 3)) x3 = a30 at *
  generalize gmul (gmul (g8 n 1) (g8 m 2)) x3 = a31 at *
  generalize gmul (gmul (g8 n 2) (g8 m 1)) x3 = a32 at *
  generalize gmul (gmul (g8 n 3) (g8 m 0)) x3 = a33 at *
  have : (((a00 ^^^ a10) ^^^ a20) ^^^ a30 ^^^ (((a11 ^^^ a21) ^^^ a31) ^^^ a01) ^^^ (((a22 ^^^ a32) ^^^ a02) ^^^ a12)) ^^^ (((a33 ^^^ a03) ^^^ a13) ^^^ a23) =
      ((((a00 ^^^ a01) ^^^ a02) ^^^ a03) ^^^ (((a10 ^^^ a11) ^^^ a12) ^^^ a13)) ^^^ ((((a20 ^^^ a21) ^^^ a22) ^^^ a23) ^^^ (((a30 ^^^ a31) ^^^ a32) ^^^ a33)) := by ac_rfl
  rw [this, e0, e1, e2, e3]
  simp
theorem pcols_back (m n : List UInt8) (b : List UInt8) (hb : b.length = 16)
    (h0 : ((gmul (g8 n 0) (g8 m 0) ^^^ gmul (g8 n 1) (g8 m 3)) ^^^ gmul (g8 n 2) (g8 m 2)) ^^^ gmul (g8 n 3) (g8 m 1) = 1)
    (h1 : ((gmul (g8 n 0) (g8 m 1) ^^^ gmul (g8 n 1) (g8 m 0)) ^^^ gmul (g8 n 2) (g8 m 3)) ^^^ gmul (g8 n 3) (g8 m 2) = 0)
    (h2 : ((gmul (g8 n 0) (g8 m 2) ^^^ gmul (g8 n 1) (g8 m 1)) ^^^ gmul (g8 n 2) (g8 m 0)) ^^^ gmul (g8 n 3) (g8 m 3) = 0)
    (h3 : ((gmul (g8 n 0) (g8 m 3) ^^^ gmul (g8 n 1) (g8 m 2)) ^^^ gmul (g8 n 2) (g8 m 1)) ^^^ gmul (g8 n 3) (g8 m 0) = 0) : pcols n (pcols m b) = b := by
  refine ext_g8 (by rw [pcols_len, hb]) fun i hi => ?_
  rw [pcols_len] at hi
  obtain ⟨c, s, hc, hs, rfl⟩ : ∃ c s, c % 4 = 0 ∧ s < 4 ∧ i = c + s := ⟨i / 4 * 4, i % 4, by omega, by omega, by omega⟩
  have hc16 : c ≤ 12 := by omega
  have hs' : s = 0 ∨ s = 1 ∨ s = 2 ∨ s = 3 := by omega
  rw [pcols_at n _ c s hc hs hi]
  rw [pcols_at m b c s hc hs hi, pcols_at m b c ((s + 1) % 4) hc (by omega) (by omega), pcols_at m b c ((s + 2) % 4) hc (by omega) (by omega), pcols_at m b c ((s + 3) % 4) hc (by omega) (by omega)]
  have q (a k : Nat) : ((s + a) % 4 + k) % 4 = (s + (a + k) % 4) % 4 := by omega
  have q0 : (s + 0) % 4 = s := by omega
  simp only [q, Nat.reduceAdd, Nat.reduceMod, q0]
  exact mix_group m n _ _ _ _ h0 h1 h2 h3
theorem cols_ed (b : List UInt8) (hb : b.length = 16) : pcols [14, 11, 13, 9] (pcols [2, 3, 1, 1] b) = b :=
  pcols_back _ _ b hb (by decide +kernel) (by decide +kernel) (by decide +kernel) (by decide +kernel)
theorem cols_de (b : List UInt8) (hb : b.length = 16) : pcols [2, 3, 1, 1] (pcols [14, 11, 13, 9] b) = b :=
  pcols_back _ _ b hb (by decide +kernel) (by decide +kernel) (by decide +kernel) (by decide +kernel)
theorem dec_enc_to (ws b : List UInt8) (n : Nat) (hb : b.length = 16) (j : Nat) (hj : j ≤ n) : decTo ws (encTo ws b n n) n j = encTo ws b n (n - j) := by
  induction j with
  | zero => rfl
  | succ j ih =>
    have ih := ih (by omega)
    obtain ⟨k, hk⟩ : ∃ k, n - j = k + 1 := ⟨n - j - 1, by omega⟩
    have e1 : n - (j + 1) = k := by omega
    simp only [decTo]
    rw [ih, e1, hk]
    have hl := encTo_len ws b n k
    simp only [encTo]
    by_cases hr : k + 1 < n
    · rw [if_pos hr, if_pos hr, pwith_twice _ _ _ (pcols_len _ _), cols_ed _ (prows_len _ _), prows_back _ (pboxes_len _ _) 1 3 (.inl ⟨rfl, rfl⟩), pboxes_back gbox gunbox unbox_box _ hl]
    · rw [if_neg hr, if_neg hr, pwith_twice _ _ _ (prows_len _ _), prows_back _ (pboxes_len _ _) 1 3 (.inl ⟨rfl, rfl⟩), pboxes_back gbox gunbox unbox_box _ hl]
theorem enc_dec_to (ws c : List UInt8) (n : Nat) (hc : c.length = 16) (k : Nat) (hk : k ≤ n) : encTo ws (pwith (decTo ws c n n) ws 0) n k = decTo ws c n (n - k) := by
  induction k with
  | zero => simp only [encTo]; exact pwith_twice _ _ _ (decTo_len _ _ _ _ hc)
  | succ k ih =>
    have ih := ih (by omega)
    obtain ⟨j, hj⟩ : ∃ j, n - k = j + 1 := ⟨n - k - 1, by omega⟩
    have e1 : n - (k + 1) = j := by omega
    have e2 : n - j = k + 1 := by omega
    simp only [encTo]
    rw [ih, e1, hj]
    simp only [decTo]
    rw [e2]
    by_cases hr : k + 1 < n
    · rw [if_pos hr, if_pos hr, pboxes_back gunbox gbox box_unbox _ (prows_len _ _), prows_back _ (pcols_len _ _) 3 1 (.inr ⟨rfl, rfl⟩), cols_de _ (pwith_len _ _ _), pwith_twice _ _ _ (decTo_len _ _ _ _ hc)]
    · rw [if_neg hr, if_neg hr, pboxes_back gunbox gbox box_unbox _ (prows_len _ _), prows_back _ (pwith_len _ _ _) 3 1 (.inr ⟨rfl, rfl⟩), pwith_twice _ _ _ (decTo_len _ _ _ _ hc)]
theorem pDec_pEnc (key b : List UInt8) (hb : b.length = 16) : pDec key (pEnc key b) = b := by
  unfold pDec pEnc
  rw [dec_enc_to _ _ _ hb _ (Nat.le_refl _), Nat.sub_self]
  exact pwith_twice _ _ _ hb
theorem pEnc_pDec (key b : List UInt8) (hb : b.length = 16) : pEnc key (pDec key b) = b := by
  unfold pDec pEnc
  rw [enc_dec_to _ _ _ hb _ (Nat.le_refl _), Nat.sub_self]
  rfl
end Lk
