/- Codes of texts, as plain functions on lists of bytes. -/
import Derived.Test.YtjbdhnmkeaogcaaMac
import Derived.Test.YtjbdhnmkeaogcaaEq
set_option linter.unusedVariables false
set_option linter.unusedSimpArgs false
namespace Lk
/-- how many zeros fill a text of l bytes and one more up to whole blocks of n -/
def pzeros (l n : Nat) : Nat := (n - (l + 1) % n) % n
def ppad (t : List UInt8) (n : Nat) : List UInt8 := t ++ 128 :: List.replicate (pzeros t.length n) 0
theorem pzeros_lt (l n : Nat) (hn : 0 < n) : pzeros l n < n := Nat.mod_lt _ hn
theorem pad_step (l n j : Nat) (hn : 0 < n) (hj : j ≤ pzeros l n) : (l + 1 + j) % n = 0 ↔ j = pzeros l n := by
  unfold pzeros at *
  have hr : (l + 1) % n < n := Nat.mod_lt _ hn
  rw [Nat.add_mod (l + 1) j n]
  generalize (l + 1) % n = r at *
  by_cases h0 : r = 0
  · subst h0
    simp at hj ⊢
    subst hj; simp
  · rw [Nat.mod_eq_of_lt (show n - r < n by omega)] at *
    have : j % n = j := Nat.mod_eq_of_lt (by omega)
    rw [this]
    by_cases e : r + j = n
    · rw [e, Nat.mod_self]; simp; omega
    · rw [Nat.mod_eq_of_lt (by omega)]; omega
theorem ppad_len (t : List UInt8) (n : Nat) : (ppad t n).length = t.length + 1 + pzeros t.length n := by unfold ppad; simp; omega
theorem ppad_mod (t : List UInt8) (n : Nat) (hn : 0 < n) : (ppad t n).length % n = 0 := by
  rw [ppad_len]; exact (pad_step t.length n _ hn (Nat.le_refl _)).2 rfl
theorem ppad_short (t : List UInt8) (n : Nat) (h : t.length < n) : ppad t n = t ++ 128 :: List.replicate (n - 1 - t.length) 0 ∧ (ppad t n).length = n := by
  have e : pzeros t.length n = n - 1 - t.length := by
    have h1 : n - 1 - t.length ≤ pzeros t.length n := by
      unfold pzeros
      by_cases e : t.length + 1 = n
      · omega
      · rw [Nat.mod_eq_of_lt (show t.length + 1 < n by omega), Nat.mod_eq_of_lt (by omega)]; omega
    have := (pad_step t.length n (n - 1 - t.length) (by omega) h1).1 (by
      have : t.length + 1 + (n - 1 - t.length) = n := by omega
      rw [this, Nat.mod_self])
    exact this.symm
  refine ⟨by unfold ppad; rw [e], ?_⟩
  rw [ppad_len, e]; omega
theorem ppad_inj (a b : List UInt8) (n : Nat) (h : a.length = b.length) : ppad a n = ppad b n ↔ a = b := by
  constructor
  · intro e
    unfold ppad at e
    exact (List.append_inj e h).1
  · intro e; rw [e]
/-- a block doubled, before its top bit is looked at; the first k bytes -/
def dblTo (b : List UInt8) (k : Nat) : List UInt8 := (List.range b.length).map fun i => if i < k then (g8 b i <<< 1) ||| (g8 b (i + 1) >>> 7) else 0
def dturn (n : Nat) : UInt8 := if n = 8 then 0x1b else 0x87
def pdbl (b : List UInt8) : List UInt8 :=
  let o := dblTo b b.length
  if g8 b 0 &&& 0x80 != 0 then o.set (b.length - 1) (g8 o (b.length - 1) ^^^ dturn b.length) else o
theorem dblTo_len (b : List UInt8) (k : Nat) : (dblTo b k).length = b.length := by simp [dblTo]
theorem pdbl_len (b : List UInt8) : (pdbl b).length = b.length := by unfold pdbl; dsimp only; split <;> simp [dblTo_len]
theorem dblTo_zero (b : List UInt8) : dblTo b 0 = List.replicate b.length 0 := by
  apply List.ext_getElem
  · simp [dblTo]
  · intro i h1 h2; simp [dblTo]
theorem dblTo_at (b : List UInt8) (k i : Nat) (hi : i < b.length) : g8 (dblTo b k) i = if i < k then (g8 b i <<< 1) ||| (g8 b (i + 1) >>> 7) else 0 := by
  simp [dblTo, g8, hi]
theorem dblTo_set (b : List UInt8) (k : Nat) (hk : k < b.length) : (dblTo b k).set k ((g8 b k <<< 1) ||| (g8 b (k + 1) >>> 7)) = dblTo b (k + 1) := by
  apply List.ext_getElem
  · simp [dblTo]
  · intro i h1 h2
    rw [List.getElem_set]
    simp only [dblTo, List.getElem_map, List.getElem_range]
    by_cases h : k = i
    · subst h; simp
    · by_cases h' : i < k
      · rw [if_neg h, if_pos h', if_pos (by omega)]
      · rw [if_neg h, if_neg h', if_neg (by omega)]
/-- a text's end turned by a block -/
def turnEnd (t s : List UInt8) : List UInt8 := t.take (t.length - s.length) ++ pxor (t.drop (t.length - s.length)) s
theorem turnEnd_len (t s : List UInt8) (h : s.length ≤ t.length) : (turnEnd t s).length = t.length := by
  unfold turnEnd; rw [List.length_append, pxor_len, List.length_take, List.length_drop]; omega
/-- the first k bytes of the end turned -/
def turnTo (t s : List UInt8) (k : Nat) : List UInt8 := (List.range t.length).map fun i => if t.length - s.length ≤ i ∧ i < t.length - s.length + k then g8 t i ^^^ g8 s (i - (t.length - s.length)) else g8 t i
theorem turnTo_len (t s : List UInt8) (k : Nat) : (turnTo t s k).length = t.length := by simp [turnTo]
theorem turnTo_zero (t s : List UInt8) : turnTo t s 0 = t := by
  apply List.ext_getElem
  · simp [turnTo]
  · intro i h1 h2
    simp only [turnTo, List.getElem_map, List.getElem_range]
    rw [if_neg (by omega)]
    simp [g8, h2]
theorem turnTo_at (t s : List UInt8) (k i : Nat) (hi : i < t.length) : g8 (turnTo t s k) i = if t.length - s.length ≤ i ∧ i < t.length - s.length + k then g8 t i ^^^ g8 s (i - (t.length - s.length)) else g8 t i := by
  simp only [g8, turnTo, List.getD_eq_getElem?_getD, List.getElem?_map, List.getElem?_range hi, Option.map_some, Option.getD_some]
theorem turnTo_set (t s : List UInt8) (k : Nat) (hk : k < s.length) (hs : s.length ≤ t.length) : (turnTo t s k).set (t.length - s.length + k) (g8 t (t.length - s.length + k) ^^^ g8 s k) = turnTo t s (k + 1) := by
  apply List.ext_getElem
  · simp [turnTo]
  · intro i h1 h2
    rw [List.getElem_set]
    simp only [turnTo, List.getElem_map, List.getElem_range]
    by_cases h : t.length - s.length + k = i
    · subst h
      rw [if_pos rfl, if_pos (by omega)]
      congr 2; omega
    · rw [if_neg h]
      by_cases h' : t.length - s.length ≤ i ∧ i < t.length - s.length + k
      · rw [if_pos h', if_pos (by omega)]
      · rw [if_neg h', if_neg (by omega)]
theorem g8_lt {l : List UInt8} {i : Nat} (h : i < l.length) : g8 l i = l[i] := by simp [g8, h]
theorem pxor_at (a b : List UInt8) (i : Nat) (hi : i < a.length) : g8 (pxor a b) i = g8 a i ^^^ g8 b i := by
  simp only [g8, pxor, xorTo, List.getD_eq_getElem?_getD, List.getElem?_map, List.getElem?_range hi, Option.map_some, Option.getD_some, if_pos hi]
theorem g8_drop (l : List UInt8) (k i : Nat) : g8 (l.drop k) i = g8 l (k + i) := by simp [g8]
theorem g8_take (l : List UInt8) (k i : Nat) (h : i < k) : g8 (l.take k) i = g8 l i := by simp [g8, List.getElem?_take, h]
theorem g8_right (l m : List UInt8) (i : Nat) (h : l.length ≤ i) : g8 (l ++ m) i = g8 m (i - l.length) := by simp [g8, List.getElem?_append_right h]
theorem turnTo_all (t s : List UInt8) (hs : s.length ≤ t.length) : turnTo t s s.length = turnEnd t s := by
  refine same_ext (by rw [turnTo_len, turnEnd_len t s hs]) fun i hi => ?_
  rw [turnTo_len] at hi
  rw [turnTo_at _ _ _ _ hi]
  unfold turnEnd
  by_cases h : t.length - s.length ≤ i
  · rw [if_pos (by omega), g8_right _ _ _ (by simp; omega), pxor_at _ _ _ (by simp; omega), g8_drop]
    simp only [List.length_take]
    have e : min (t.length - s.length) t.length = t.length - s.length := by omega
    rw [e]
    congr 2; omega
  · rw [if_neg (by omega), g8_app _ _ _ (by simp; omega), g8_take _ _ _ (by omega)]
def needPad (len n : Nat) : Bool := len == 0 || len % n != 0
/-- what is chained of a text, l being what zeros are enciphered to -/
def pfull (n : Nat) (text l : List UInt8) : List UInt8 :=
  bif needPad text.length n then turnEnd (ppad text n) (pdbl (pdbl l)) else turnEnd text (pdbl l)
def pcmac (kind : Nat) (key text : List UInt8) : List UInt8 :=
  let full := pfull (psize kind) text (pdo kind key (List.replicate (psize kind) 0) false)
  pchain kind key full (full.length / psize kind)
def pretail (key text : List UInt8) : List UInt8 :=
  ptriple (key.take 8) (ptriple (key.drop 8) (pchain 2 (key.take 8) (ppad text 8) ((ppad text 8).length / 8)) true) false
theorem whole_blocks (text : List UInt8) (n : Nat) (hn : 0 < n) (h : needPad text.length n = false) : n ≤ text.length ∧ text.length % n = 0 := by
  unfold needPad at h
  simp only [Bool.or_eq_false_iff, beq_eq_false_iff_ne, bne_eq_false_iff_eq] at h
  refine ⟨?_, h.2⟩
  have := Nat.div_add_mod text.length n
  have h1 : 1 ≤ text.length / n := by
    rcases Nat.eq_zero_or_pos (text.length / n) with e | e
    · rw [e, h.2] at this; simp at this; omega
    · exact e
  have := Nat.mul_le_mul_left n h1
  omega
theorem pfull_len (n : Nat) (text l : List UInt8) (hn : 0 < n) (hl : l.length = n) : n ≤ (pfull n text l).length ∧ (pfull n text l).length % n = 0 ∧ (pfull n text l).length ≤ text.length + n := by
  unfold pfull
  cases h : needPad text.length n with
  | true =>
    have hm := ppad_mod text n hn
    have hp := ppad_len text n
    have hz := pzeros_lt text.length n hn
    have hge : n ≤ (ppad text n).length := by
      have := Nat.div_add_mod (ppad text n).length n
      have h1 : 1 ≤ (ppad text n).length / n := by
        rcases Nat.eq_zero_or_pos ((ppad text n).length / n) with e | e
        · rw [e, hm] at this; simp at this; omega
        · exact e
      have := Nat.mul_le_mul_left n h1
      omega
    simp only [cond_true]
    rw [turnEnd_len _ _ (by rw [pdbl_len, pdbl_len, hl]; exact hge)]
    exact ⟨hge, hm, by omega⟩
  | false =>
    have hw := whole_blocks text n hn h
    simp only [cond_false]
    rw [turnEnd_len _ _ (by rw [pdbl_len, hl]; exact hw.1)]
    exact ⟨hw.1, hw.2, by omega⟩
theorem g8_over (l : List UInt8) (i : Nat) (h : l.length ≤ i) : g8 l i = 0 := by simp [g8, h]
theorem zero_shr7 : (0 : UInt8) >>> 7 = 0 := by decide
theorem or_zero8 (x : UInt8) : x ||| 0 = x := by
  apply UInt8.toNat_inj.1; simp
end Lk
