/- Codes of texts of one block: unlike texts have unlike codes. -/
import Derived.Test.YtjbdhnmkeaogcaaMacP
import Derived.Test.YtjbdhnmkeaogcaaAinv
import Derived.Test.YtjbdhnmkeaogcaaDinv
set_option linter.unusedVariables false
set_option linter.unusedSimpArgs false
namespace Lk
theorem xor_cancel (a b c : UInt8) : a ^^^ c = b ^^^ c ↔ a = b := by
  constructor
  · intro h
    have := congrArg (· ^^^ c) h
    simpa [UInt8.xor_assoc] using this
  · intro h; rw [h]
theorem pxor_inj (a b c : List UInt8) (h : a.length = b.length) : pxor a c = pxor b c ↔ a = b := by
  constructor
  · intro e
    refine ext_g8 h fun i hi => ?_
    have := congrArg (fun l => g8 l i) e
    rw [pxor_at _ _ _ hi, pxor_at _ _ _ (by omega)] at this
    exact (xor_cancel _ _ _).1 this
  · intro e; rw [e]
theorem pxor_comm (a b : List UInt8) (h : a.length = b.length) : pxor a b = pxor b a := by
  refine ext_g8 (by rw [pxor_len, pxor_len, h]) fun i hi => ?_
  rw [pxor_len] at hi
  rw [pxor_at _ _ _ hi, pxor_at _ _ _ (by omega), UInt8.xor_comm]
theorem g8_replicate (n i : Nat) : g8 (List.replicate n 0) i = 0 := by
  unfold g8
  rw [List.getD_eq_getElem?_getD, List.getElem?_replicate]
  split <;> rfl
theorem pxor_zero (a : List UInt8) (n : Nat) : pxor a (List.replicate n 0) = a := by
  refine ext_g8 (pxor_len _ _) fun i hi => ?_
  rw [pxor_len] at hi
  rw [pxor_at _ _ _ hi, g8_replicate, UInt8.xor_zero]
theorem turnEnd_one (t s : List UInt8) (h : t.length = s.length) : turnEnd t s = pxor t s := by
  unfold turnEnd
  rw [h, Nat.sub_self, List.take_zero, List.drop_zero, List.nil_append]
theorem pchain_one (kind : Nat) (key t : List UInt8) (h : t.length = psize kind) : pchain kind key t 1 = pdo kind key t false := by
  unfold pchain
  simp only [chTo]
  have : blkAt t (psize kind) 0 = t := by unfold blkAt; rw [Nat.mul_zero, List.drop_zero, List.take_of_length_le (by omega)]
  rw [this, pxor_zero]
theorem pdbl_at (b : List UInt8) (i : Nat) (hi : i < b.length) : g8 (pdbl b) i = ((g8 b i <<< 1) ||| (g8 b (i + 1) >>> 7)) ^^^ (if g8 b 0 &&& 0x80 != 0 ∧ i = b.length - 1 then dturn b.length else 0) := by
  unfold pdbl
  dsimp only
  have e := dblTo_at b b.length i hi
  rw [if_pos hi] at e
  by_cases h : (g8 b 0 &&& 0x80 != 0) = true
  · rw [if_pos h]
    by_cases h2 : i = b.length - 1
    · rw [if_pos ⟨h, h2⟩, ← h2, ← e]
      simp [g8, dblTo_len, hi]
    · rw [if_neg (fun hc => h2 hc.2), UInt8.xor_zero, ← e]
      unfold g8
      rw [List.getD_eq_getElem?_getD, List.getElem?_set_ne (Ne.symm h2), ← List.getD_eq_getElem?_getD]
  · rw [if_neg h, if_neg (fun hc => h hc.1), UInt8.xor_zero, e]
theorem dbl_fix : allB (fun x => (x != (x <<< 1) || x == 0) && (x != (x <<< 1) ^^^ 0x1b || x >>> 7 == 0) && (x != (x <<< 1) ^^^ 0x87 || x >>> 7 == 0) && ((x <<< 1) ^^^ 0x1b != 0) && ((x <<< 1) ^^^ 0x87 != 0) && (x <<< 1 != 0 || x >>> 7 != 0 || x == 0) && (x &&& 0x80 != 0 || x >>> 7 == 0)) = true := by decide +kernel
theorem dbl_facts (x : UInt8) : (x = x <<< 1 → x = 0) ∧ (x = (x <<< 1) ^^^ 0x1b → x >>> 7 = 0) ∧ (x = (x <<< 1) ^^^ 0x87 → x >>> 7 = 0) ∧ (x <<< 1) ^^^ 0x1b ≠ 0 ∧ (x <<< 1) ^^^ 0x87 ≠ 0 ∧ (x <<< 1 = 0 → x >>> 7 = 0 → x = 0) ∧ (x &&& 0x80 = 0 → x >>> 7 = 0) := by
  have := allB_spec dbl_fix x
  simp only [Bool.and_eq_true, Bool.or_eq_true, bne_iff_ne, beq_iff_eq, ne_eq] at this
  obtain ⟨⟨⟨⟨⟨⟨h1, h2⟩, h3⟩, h4⟩, h5⟩, h6⟩, h7⟩ := this
  refine ⟨fun h => ?_, fun h => ?_, fun h => ?_, h4, h5, fun a b => ?_, fun h => ?_⟩
  · exact h1.resolve_left (fun g => g h)
  · exact h2.resolve_left (fun g => g h)
  · exact h3.resolve_left (fun g => g h)
  · rcases h6 with (g | g) | g
    · exact (g a).elim
    · exact (g b).elim
    · exact g
  · exact h7.resolve_left (fun g => g h)
/-- only zeros are their own double -/
theorem pdbl_fix (y : List UInt8) (hy : 2 ≤ y.length) (h : pdbl y = y) : ∀ i, i < y.length → g8 y i = 0 := by
  have hat : ∀ i, i < y.length → g8 y i = ((g8 y i <<< 1) ||| (g8 y (i + 1) >>> 7)) ^^^ (if g8 y 0 &&& 0x80 != 0 ∧ i = y.length - 1 then dturn y.length else 0) := by
    intro i hi
    have := pdbl_at y i hi
    rw [h] at this
    exact this
  have hlast := hat (y.length - 1) (by omega)
  rw [g8_over y (y.length - 1 + 1) (by omega), zero_shr7, or_zero8] at hlast
  have hz7 : g8 y (y.length - 1) >>> 7 = 0 := by
    have hf := dbl_facts (g8 y (y.length - 1))
    by_cases hm : (g8 y 0 &&& 0x80 != 0) = true
    · rw [if_pos ⟨hm, rfl⟩] at hlast
      unfold dturn at hlast
      split at hlast
      · exact hf.2.1 hlast
      · exact hf.2.2.1 hlast
    · rw [if_neg (fun hc => hm hc.1), UInt8.xor_zero] at hlast
      rw [hf.1 hlast]; exact zero_shr7
  have hdown : ∀ j, j + 1 < y.length → g8 y (y.length - 2 - j) = 0 := by
    intro j
    induction j with
    | zero =>
      intro hj
      have := hat (y.length - 2) (by omega)
      rw [if_neg (fun hc => by have := hc.2; omega), UInt8.xor_zero, show y.length - 2 + 1 = y.length - 1 by omega, hz7, or_zero8] at this
      exact (dbl_facts _).1 this
    | succ j ih =>
      intro hj
      have ih := ih (by omega)
      have := hat (y.length - 2 - (j + 1)) (by omega)
      rw [if_neg (fun hc => by have := hc.2; omega), UInt8.xor_zero, show y.length - 2 - (j + 1) + 1 = y.length - 2 - j by omega, ih, zero_shr7, or_zero8] at this
      exact (dbl_facts _).1 this
  have h0 : g8 y 0 = 0 := by
    have := hdown (y.length - 2) (by omega)
    rwa [Nat.sub_self] at this
  intro i hi
  by_cases hl : i = y.length - 1
  · have hm : ¬ (g8 y 0 &&& 0x80 != 0) = true := by rw [h0]; decide
    rw [if_neg (fun hc => hm hc.1), UInt8.xor_zero] at hlast
    rw [hl]; exact (dbl_facts _).1 hlast
  · have := hdown (y.length - 2 - i) (by omega)
    rwa [show y.length - 2 - (y.length - 2 - i) = i by omega] at this
theorem or_eq_zero8 {a b : UInt8} (h : a ||| b = 0) : a = 0 ∧ b = 0 := by
  have := congrArg UInt8.toNat h
  rw [UInt8.toNat_or] at this
  have h2 : a.toNat = 0 ∧ b.toNat = 0 := Nat.or_eq_zero_iff.1 this
  exact ⟨UInt8.toNat_inj.1 h2.1, UInt8.toNat_inj.1 h2.2⟩
/-- what is doubled to zeros is zeros -/
theorem pdbl_zero (y : List UInt8) (hy : 1 ≤ y.length) (h : ∀ i, i < y.length → g8 (pdbl y) i = 0) : ∀ i, i < y.length → g8 y i = 0 := by
  have hat : ∀ i, i < y.length → ((g8 y i <<< 1) ||| (g8 y (i + 1) >>> 7)) ^^^ (if g8 y 0 &&& 0x80 != 0 ∧ i = y.length - 1 then dturn y.length else 0) = 0 := by
    intro i hi
    rw [← pdbl_at y i hi]; exact h i hi
  have hlast := hat (y.length - 1) (by omega)
  rw [g8_over y (y.length - 1 + 1) (by omega), zero_shr7, or_zero8] at hlast
  have hf := dbl_facts (g8 y (y.length - 1))
  have hm : ¬ (g8 y 0 &&& 0x80 != 0) = true := by
    intro hm
    rw [if_pos ⟨hm, rfl⟩] at hlast
    unfold dturn at hlast
    split at hlast
    · exact hf.2.2.2.1 hlast
    · exact hf.2.2.2.2.1 hlast
  have hs : ∀ i, i < y.length → g8 y i <<< 1 = 0 ∧ g8 y (i + 1) >>> 7 = 0 := by
    intro i hi
    have := hat i hi
    rw [if_neg (fun hc => hm hc.1), UInt8.xor_zero] at this
    exact or_eq_zero8 this
  have h7 : ∀ i, i < y.length → g8 y i >>> 7 = 0 := by
    intro i hi
    cases i with
    | zero => exact (dbl_facts _).2.2.2.2.2.2 (by simpa using hm)
    | succ i => exact (hs i (by omega)).2
  intro i hi
  exact (dbl_facts _).2.2.2.2.2.1 (hs i hi).1 (h7 i hi)
theorem zeros_of (y : List UInt8) (h : ∀ i, i < y.length → g8 y i = 0) : y = List.replicate y.length 0 :=
  ext_g8 (by simp) fun i hi => by rw [h i hi, g8_replicate]
theorem needPad_whole (n : Nat) (hn : 0 < n) : needPad n n = false := by
  unfold needPad
  rw [Nat.mod_self]
  simp; omega
theorem needPad_short (l n : Nat) (h : l < n) : needPad l n = true := by
  unfold needPad
  rw [Nat.mod_eq_of_lt h]
  by_cases e : l = 0 <;> simp [e]
theorem psize_pos (kind : Nat) : 0 < psize kind := by unfold psize; split <;> omega
/-- what zeros are enciphered to -/
def pzer (kind : Nat) (key : List UInt8) : List UInt8 := pdo kind key (List.replicate (psize kind) 0) false
theorem pzer_len (kind : Nat) (key : List UInt8) (hk : kind = 1 ∨ kind = 2) : (pzer kind key).length = psize kind := pdo_len _ _ _ _ hk
/-- the code of a block -/
theorem pcmac_whole (kind : Nat) (key a : List UInt8) (hk : kind = 1 ∨ kind = 2) (h : a.length = psize kind) :
    pcmac kind key a = pdo kind key (pxor a (pdbl (pzer kind key))) false := by
  have hl := pzer_len kind key hk
  have e : pfull (psize kind) a (pzer kind key) = pxor a (pdbl (pzer kind key)) := by
    unfold pfull
    rw [h, needPad_whole _ (psize_pos kind)]
    exact turnEnd_one _ _ (by rw [pdbl_len, hl, h])
  show pchain kind key (pfull (psize kind) a (pzer kind key)) ((pfull (psize kind) a (pzer kind key)).length / psize kind) = _
  rw [e, pxor_len, h, Nat.div_self (psize_pos kind)]
  exact pchain_one kind key _ (by rw [pxor_len, h])
/-- the code of less than a block -/
theorem pcmac_short (kind : Nat) (key a : List UInt8) (hk : kind = 1 ∨ kind = 2) (h : a.length < psize kind) :
    pcmac kind key a = pdo kind key (pxor (ppad a (psize kind)) (pdbl (pdbl (pzer kind key)))) false := by
  have hl := pzer_len kind key hk
  have hp := (ppad_short a (psize kind) h).2
  have e : pfull (psize kind) a (pzer kind key) = pxor (ppad a (psize kind)) (pdbl (pdbl (pzer kind key))) := by
    unfold pfull
    rw [needPad_short _ _ h]
    exact turnEnd_one _ _ (by rw [pdbl_len, pdbl_len, hl, hp])
  show pchain kind key (pfull (psize kind) a (pzer kind key)) ((pfull (psize kind) a (pzer kind key)).length / psize kind) = _
  rw [e, pxor_len, hp, Nat.div_self (psize_pos kind)]
  exact pchain_one kind key _ (by rw [pxor_len, hp])
theorem pdo_inj2 (key a b : List UInt8) (back : Bool) (ha : a.length = 8) (hb : b.length = 8) : pdo 2 key a back = pdo 2 key b back ↔ a = b := ptriple_inj key a b back ha hb
/-- P7.3: unlike texts of one block have unlike codes -/
theorem parts_whole (key a b : List UInt8) (ha : a.length = 8) (hb : b.length = 8) : pcmac 2 key a = pcmac 2 key b ↔ a = b := by
  rw [pcmac_whole 2 key a (.inr rfl) ha, pcmac_whole 2 key b (.inr rfl) hb, pdo_inj2 _ _ _ _ (by rw [pxor_len, ha]) (by rw [pxor_len, hb]), pxor_inj _ _ _ (by omega)]
theorem parts_short (key a b : List UInt8) (ha : a.length < 8) (hab : a.length = b.length) : pcmac 2 key a = pcmac 2 key b ↔ a = b := by
  rw [pcmac_short 2 key a (.inr rfl) ha, pcmac_short 2 key b (.inr rfl) (by show _ < 8; omega)]
  have hp := (ppad_short a 8 ha).2
  have hq := (ppad_short b 8 (by omega)).2
  show pdo 2 key (pxor (ppad a 8) _) false = pdo 2 key (pxor (ppad b 8) _) false ↔ _
  rw [pdo_inj2 _ _ _ _ (by rw [pxor_len, hp]) (by rw [pxor_len, hq]), pxor_inj _ _ _ (by omega), ppad_inj _ _ _ hab]
theorem pxor_same (t c d : List UInt8) (hc : c.length = t.length) (hd : d.length = t.length) (h : pxor t c = pxor t d) : c = d := by
  rw [pxor_comm t c hc.symm, pxor_comm t d hd.symm] at h
  exact (pxor_inj c d t (by omega)).1 h
theorem parts_pad (key a : List UInt8) (ha : a.length < 8) (hz : pzer 2 key ≠ List.replicate 8 0) : pcmac 2 key (ppad a 8) ≠ pcmac 2 key a := by
  have hl : (pzer 2 key).length = 8 := pzer_len 2 key (.inr rfl)
  have hp := (ppad_short a 8 ha).2
  rw [pcmac_short 2 key a (.inr rfl) ha, pcmac_whole 2 key (ppad a 8) (.inr rfl) hp]
  show pdo 2 key (pxor (ppad a 8) _) false ≠ pdo 2 key (pxor (ppad a 8) _) false
  intro h
  rw [pdo_inj2 _ _ _ _ (by rw [pxor_len, hp]) (by rw [pxor_len, hp])] at h
  have h2 := pxor_same _ _ _ (by rw [pdbl_len, hl, hp]) (by rw [pdbl_len, pdbl_len, hl, hp]) h
  have h3 := pdbl_fix (pdbl (pzer 2 key)) (by rw [pdbl_len, hl]; decide) h2.symm
  rw [pdbl_len] at h3
  have h4 := zeros_of _ (pdbl_zero (pzer 2 key) (by rw [hl]; decide) h3)
  rw [hl] at h4
  exact hz h4
theorem pretail_short (key a : List UInt8) (ha : a.length < 8) : pretail key a = ptriple (key.take 8) (ptriple (key.drop 8) (ptriple (key.take 8) (ppad a 8) false) true) false := by
  have hp := (ppad_short a 8 ha).2
  unfold pretail
  rw [hp, show 8 / 8 = 1 from rfl, pchain_one 2 _ _ hp]
  rfl
theorem ptriple_len8 (key b : List UInt8) (back : Bool) : (ptriple key b back).length = 8 := ptriple_len key b back
theorem parts_retail (key a b : List UInt8) (ha : a.length < 8) (hab : a.length = b.length) : pretail key a = pretail key b ↔ a = b := by
  have hp := (ppad_short a 8 ha).2
  have hq := (ppad_short b 8 (by omega)).2
  rw [pretail_short _ _ ha, pretail_short _ _ (by omega), ptriple_inj _ _ _ _ (ptriple_len8 _ _ _) (ptriple_len8 _ _ _), ptriple_inj _ _ _ _ (ptriple_len8 _ _ _) (ptriple_len8 _ _ _), ptriple_inj _ _ _ _ hp hq, ppad_inj _ _ _ hab]
end Lk
