/- The library's contracts at this dump (strings.IndexByte, (*strings.Builder).String), laid by the kit's tools, numbers turned into names. -/
import Derived.Shelf.Strings.Builder1
import Derived.Shelf.Small.Strs
import Derived.Test.YtbbfjlnkhenbiaaDoorProg
import Derived.Test.YtbbfjlnkhenbiaaDoorKB7
import Derived.Test.YtbbfjlnkhenbiaaDoorKG0
import Derived.Test.YtbbfjlnkhenbiaaDoorKOH
import Derived.Test.YtbbfjlnkhenbiaaDoorKB5
import Derived.Laws.IdiomStrings
set_option linter.unusedVariables false
namespace Go.Proofs.YtbbfjlnkhenbiaaDoor
open Go Go.Proofs Go.Shelf Go.RowKit
def shl_lays169_ren : Go.Shelf.Ren := ⟨fun | 169 => 67 | n => n, fun | 70 => 124 | 9 => 9 | 0 => 0 | 72 => 126 | 37 => 22 | 127 => 181 | 3 => 3 | 5 => 5 | n => n, fun | n => n⟩
theorem shl_lays169 : Go.Proofs.Lays.n169 Tryd.prog shl_lays169_ren := {
  mixed := by kernel_rfl
  f169 := Tryd.func67.trans (congrArg some (by kernel_rfl))
  t0 := Tryd.underlying0
  a0 := Tryd.isAgg0
  z0 := Tryd.sizeOf0
  v0 := Tryd.zeroValue0
  t3 := Tryd.underlying3
  a3 := Tryd.isAgg3
  z3 := Tryd.sizeOf3
  v3 := Tryd.zeroValue3
  t9 := Tryd.underlying9
  a9 := Tryd.isAgg9
  z9 := Tryd.sizeOf9
  v9 := Tryd.zeroValue9
  t37 := Tryd.underlying22
  a37 := Tryd.isAgg22
  z37 := Tryd.sizeOf22
  v37 := Tryd.zeroValue22
  t70 := Tryd.underlying124
  a70 := Tryd.isAgg124
  z70 := Tryd.sizeOf124
  v70 := Tryd.zeroValue124
  t72 := Tryd.underlying126
  a72 := Tryd.isAgg126
  z72 := Tryd.sizeOf126
  v72 := Tryd.zeroValue126
  t127 := Tryd.underlying181
  a127 := Tryd.isAgg181
  z127 := Tryd.sizeOf181
  v127 := Tryd.zeroValue181 }
theorem shl_Builder_Extra_169 : Builder.Extra Tryd.prog shl_lays169_ren := {
  sizeBuilder := by kernel_rfl
  liesBuilder := by kernel_rfl
  t5 := Tryd.underlying5
  a5 := Tryd.isAgg5
  z5 := Tryd.sizeOf5
  v5 := Tryd.zeroValue5
  infoByte := by kernel_rfl
  cellsByte := by kernel_rfl
  sizeByte := by kernel_rfl
  neB5 := by decide }
theorem shl_Builder_String_any (B b : Nat) (l : List UInt8) (w : World) (h : Lib.IsBuilder 126 5 B b (Lib.byteCells l) w) (hBw : B ≤ w.heap.size) :
    Calls Tryd.prog 67 #[.pointer (some ⟨b, 0, none⟩)] w fun e w' => e = .returned (.string ⟨l.toArray⟩) ∧ Below B w w' := Any.Builder_String_any shl_lays169 shl_Builder_Extra_169 B b l w h hBw
def shl_lays137_ren : Go.Shelf.Ren := ⟨fun | 137 => 65 | 217 => 98 | 266 => 108 | n => n, fun | 9 => 9 | 5 => 5 | 3 => 3 | n => n, fun | n => n⟩
theorem shl_lays137 : Go.Proofs.Lays.n137 Tryd.prog shl_lays137_ren := {
  mixed := by kernel_rfl
  f137 := Tryd.func65.trans (congrArg some (by kernel_rfl))
  f217 := Tryd.func98.trans (congrArg some (by kernel_rfl))
  f266 := Tryd.func108.trans (congrArg some (by kernel_rfl))
  t3 := Tryd.underlying3
  a3 := Tryd.isAgg3
  z3 := Tryd.sizeOf3
  v3 := Tryd.zeroValue3
  t5 := Tryd.underlying5
  a5 := Tryd.isAgg5
  z5 := Tryd.sizeOf5
  v5 := Tryd.zeroValue5
  t9 := Tryd.underlying9
  a9 := Tryd.isAgg9
  z9 := Tryd.sizeOf9
  v9 := Tryd.zeroValue9 }
theorem shl_strings_IndexByte (s : ByteArray) (c : Int) (w : World) :
    Calls Tryd.prog 65 #[.string s, .int .u8 c] w fun e w' => e = .returned (.int .i64 (Lib.indexByte s.data.toList c.toNat.toUInt8)) ∧ w' = w := Any.strings_IndexByte shl_lays137 s c w
end Go.Proofs.YtbbfjlnkhenbiaaDoor
set_option linter.unusedVariables false
set_option linter.unusedSimpArgs false
namespace Lk
open Go Go.RowKit
/-- whether all bytes up to k are among some -/
def among (t : ByteArray) (c : UInt8) : Bool := decide (0 ≤ Lib.indexByte t.data.toList c)
/-- the place of the first byte that isn't one of some; -1: all are -/
def dfirst (s t : ByteArray) : Int := if (sb s).findIdx (fun c => !among t c) < s.size then ((sb s).findIdx (fun c => !among t c) : Int) else -1
theorem sget (s : ByteArray) (k : Nat) (h : k < s.size) : (s[k]'h) = g8 (sb s) k := by
  unfold g8 sb
  have h' : k < s.data.toList.length := by simpa using h
  simp [h]
  rfl
theorem dfirst_none {s t : ByteArray} (h : ∀ j, j < s.size → among t (g8 (sb s) j) = true) : dfirst s t = -1 := by
  unfold dfirst
  rw [if_neg]
  intro hlt
  have hl : (sb s).findIdx (fun c => !among t c) < (sb s).length := by rw [sb_len]; exact hlt
  have := List.findIdx_getElem (w := hl)
  have h2 := h _ hlt
  rw [show g8 (sb s) ((sb s).findIdx fun c => !among t c) = (sb s)[(sb s).findIdx fun c => !among t c] from by unfold g8; simp [hl]] at h2
  rw [h2] at this
  cases this
theorem dfirst_at {s t : ByteArray} {k : Nat} (hk : k < s.size) (h : ∀ j, j < k → among t (g8 (sb s) j) = true) (hn : among t (g8 (sb s) k) = false) : dfirst s t = (k : Int) := by
  have hl : k < (sb s).length := by rw [sb_len]; exact hk
  have e : (sb s).findIdx (fun c => !among t c) = k := by
    rw [List.findIdx_eq hl]
    refine ⟨?_, fun j hj => ?_⟩
    · have : g8 (sb s) k = (sb s)[k] := by unfold g8; simp [hl]
      rw [← this, hn]; rfl
    · have hj' : j < (sb s).length := by omega
      have : g8 (sb s) j = (sb s)[j] := by unfold g8; simp [hj']
      rw [← this, h j hj]; rfl
  unfold dfirst
  rw [e, if_pos hk]
end Lk
namespace Go.Proofs.YtbbfjlnkhenbiaaDoor
open Go Go.RowKit Lk
set_option maxRecDepth 100000 in
theorem first_any (s t : ByteArray) (w : World) (hs : s.size ≤ 1000000) : Calls Tryd.prog 63 #[.string s, .string t] w fun e w' => e = .returned (.int .i64 (dfirst s t)) ∧ w' = w := by
  obtain ⟨P, hP⟩ : ∃ P, dfirst s t = P := ⟨_, rfl⟩
  have HP := Lib.hid hP
  rw [hP]
  have hx : ∀ (k : Nat) (h : k < s.size), Lib.indexByte t.data.toList (((s[k]'h).toNat : Int)).toNat.toUInt8 = Lib.indexByte t.data.toList (g8 (sb s) k) := fun k h => by rw [sget s k h]; simp
  have HX := Lib.hid hx
  clear hx hP
  go_enter Tryd.func63, Tryd.ntmps63
  go_wp2
  go_loopw [8] (fun i wr => ∃ k : Nat, k ≤ s.size ∧ i = .int .i64 k ∧ (∀ j, j < k → among t (g8 (sb s) j) = true) ∧ wr = w) (fun i _ => s.size - (intOf i).toNat)
  case atStart => exact ⟨0, by omega, rfl, fun j hj => by omega, rfl⟩
  case round =>
    obtain ⟨k, hk, rfl, hok, rfl⟩ := hrel
    by_cases hlt : k < s.size
    · have hik : (k : Int) < (s.size : Int) := by omega
      have HLT := Lib.hid hlt
      have HOK := Lib.hid hok
      obtain ⟨q, hq⟩ : ∃ q, Lib.indexByte t.data.toList (g8 (sb s) k) = q := ⟨_, rfl⟩
      have HQ := Lib.hid hq
      clear hok hq
      by_cases h0 : 0 ≤ q
      · have hq0 : ¬ q < 0 := by omega
        have HH := Lib.hid (show among t (g8 (sb s) k) = true by unfold among; rw [HQ.out]; simpa using h0)
        clear h0
        go_wp2_with (go_at_call 65; refine (shl_strings_IndexByte t _ wr).mono ?_; rintro e w5 ⟨he, hw⟩; rw [HX.out, HQ.out] at he; subst he; subst hw)
        refine ⟨⟨k + 1, HLT.out, by go_num, fun j hj => ?_, by first | rfl | trivial⟩, by have := HLT.out; simp [intOf]; omega⟩
        by_cases e : j = k
        · rw [e]; exact HH.out
        · exact HOK.out j (by omega)
      · have hq0 : q < 0 := by omega
        have HH := Lib.hid (dfirst_at hlt HOK.out (show among t (g8 (sb s) k) = false by unfold among; rw [HQ.out]; simp; omega))
        clear h0
        go_wp2_with (go_at_call 65; refine (shl_strings_IndexByte t _ wr).mono ?_; rintro e w5 ⟨he, hw⟩; rw [HX.out, HQ.out] at he; subst he; subst hw)
        go_ret
        exact ⟨by rw [← HP.out, HH.out]; rfl, rfl⟩
    · have hik : ¬ (k : Int) < (s.size : Int) := by omega
      have HH := Lib.hid (dfirst_none (s := s) (t := t) fun j hj => hok j (by omega))
      clear hok
      go_wp2
      go_ret
      exact ⟨by rw [← HP.out, HH.out]; rfl, rfl⟩
end Go.Proofs.YtbbfjlnkhenbiaaDoor
set_option linter.unusedVariables false
set_option linter.unusedSimpArgs false
namespace Lk
open Go
theorem all8 (p : UInt8 → Prop) (h : ∀ n : Fin 256, p (UInt8.ofNat n.val)) (c : UInt8) : p c := by
  have := h ⟨c.toNat, c.toNat_lt⟩
  simpa using this
/-- a digit's number; 99: it is none -/
def dv (c : UInt8) : Nat := if 48 ≤ c.toNat ∧ c.toNat ≤ 57 then c.toNat - 48 else if 65 ≤ c.toNat ∧ c.toNat ≤ 70 then c.toNat - 55 else 99
/-- the digit of a number -/
def hx (n : Nat) : UInt8 := UInt8.ofNat (if n < 10 then 48 + n else 55 + n)
def D16 : ByteArray := ⟨#[48, 49, 50, 51, 52, 53, 54, 55, 56, 57, 65, 66, 67, 68, 69, 70]⟩
def D10 : ByteArray := ⟨#[48, 49, 50, 51, 52, 53, 54, 55, 56, 57]⟩
theorem index16 (c : UInt8) : Lib.indexByte D16.data.toList c = if dv c = 99 then -1 else (dv c : Int) := by
  revert c; exact all8 _ (by decide +kernel)
theorem index10 (c : UInt8) : Lib.indexByte D10.data.toList c = if 10 ≤ dv c then -1 else (dv c : Int) := by
  revert c; exact all8 _ (by decide +kernel)
theorem among16 (c : UInt8) : among D16 c = decide (dv c < 16) := by
  revert c; exact all8 _ (by decide +kernel)
theorem among10 (c : UInt8) : among D10 c = decide (dv c < 10) := by
  revert c; exact all8 _ (by decide +kernel)
theorem dv_hx (n : Nat) (h : n < 16) : dv (hx n) = n := by
  have : ∀ n : Fin 16, dv (hx n.val) = n.val := by decide +kernel
  exact this ⟨n, h⟩
theorem hx_dv (c : UInt8) (h : dv c < 16) : hx (dv c) = c := by
  revert h; revert c; exact all8 _ (by decide +kernel)
theorem dv10 (c : UInt8) (h : dv c < 10) : 48 ≤ c.toNat ∧ c.toNat ≤ 57 ∧ dv c = c.toNat - 48 := by
  revert h; revert c; exact all8 _ (by decide +kernel)
theorem dv_cases (c : UInt8) : dv c < 16 ∨ dv c = 99 := by
  revert c; exact all8 _ (by decide +kernel)
/-- the place of the first byte that is no digit below a base; -1: there is none -/
def pf (b : Nat) (l : List UInt8) : Int := if l.findIdx (fun c => decide (b ≤ dv c)) < l.length then (l.findIdx (fun c => decide (b ≤ dv c)) : Int) else -1
theorem dfirst16 (s : ByteArray) : dfirst s D16 = pf 16 (sb s) := by
  unfold dfirst pf
  rw [sb_len]
  have : (fun c => !among D16 c) = fun c => decide (16 ≤ dv c) := by
    funext c; rw [among16, Bool.eq_iff_iff]; simp
  rw [this]
theorem dfirst10 (s : ByteArray) : dfirst s D10 = pf 10 (sb s) := by
  unfold dfirst pf
  rw [sb_len]
  have : (fun c => !among D10 c) = fun c => decide (10 ≤ dv c) := by
    funext c; rw [among10, Bool.eq_iff_iff]; simp
  rw [this]
theorem pf_at {b : Nat} {l : List UInt8} {k : Nat} (hk : k < l.length) (h : ∀ j, j < k → dv (g8 l j) < b) (hn : b ≤ dv (g8 l k)) : pf b l = (k : Int) := by
  have e : l.findIdx (fun c => decide (b ≤ dv c)) = k := by
    rw [List.findIdx_eq hk]
    refine ⟨?_, fun j hj => ?_⟩
    · have : g8 l k = l[k] := by unfold g8; simp [hk]
      rw [← this]; simpa using hn
    · have hj' : j < l.length := by omega
      have e : g8 l j = l[j] := by unfold g8; simp [hj']
      have := h j hj
      rw [← e]; simpa using this
  unfold pf
  rw [e, if_pos hk]
theorem pf_none {b : Nat} {l : List UInt8} (h : ∀ j, j < l.length → dv (g8 l j) < b) : pf b l = -1 := by
  unfold pf
  rw [if_neg]
  intro hlt
  have h1 := List.findIdx_getElem (w := hlt)
  have h2 := h _ hlt
  rw [show g8 l (l.findIdx fun c => decide (b ≤ dv c)) = l[l.findIdx fun c => decide (b ≤ dv c)] from by unfold g8; simp [hlt]] at h2
  simp at h1
  omega
theorem pf_cases (b : Nat) (l : List UInt8) : (pf b l = -1 ∧ ∀ j, j < l.length → dv (g8 l j) < b) ∨ (∃ k : Nat, pf b l = (k : Int) ∧ k < l.length ∧ b ≤ dv (g8 l k) ∧ ∀ j, j < k → dv (g8 l j) < b) := by
  by_cases hlt : l.findIdx (fun c => decide (b ≤ dv c)) < l.length
  · refine .inr ⟨_, by unfold pf; rw [if_pos hlt], hlt, ?_, fun j hj => ?_⟩
    · have h1 := List.findIdx_getElem (w := hlt)
      rw [show g8 l (l.findIdx fun c => decide (b ≤ dv c)) = l[l.findIdx fun c => decide (b ≤ dv c)] from by unfold g8; simp [hlt]]
      simpa using h1
    · have h1 := List.not_of_lt_findIdx hj
      have : j < l.length := by omega
      rw [show g8 l j = l[j] from by unfold g8; simp [this]]
      simp at h1
      omega
  · refine .inl ⟨by unfold pf; rw [if_neg hlt], fun j hj => ?_⟩
    have hj2 : j < l.findIdx (fun c => decide (b ≤ dv c)) := by omega
    have h1 := List.not_of_lt_findIdx hj2
    rw [show g8 l j = l[j] from by unfold g8; simp [hj]]
    simp at h1
    omega
theorem pf_neg {b : Nat} {l : List UInt8} (h : pf b l < 0) : pf b l = -1 ∧ ∀ j, j < l.length → dv (g8 l j) < b := by
  rcases pf_cases b l with h1 | ⟨k, h1, _⟩
  · exact h1
  · omega
/-- bytes in digits -/
def phex (l : List UInt8) : List UInt8 := l.flatMap fun c => [hx (c.toNat / 16), hx (c.toNat % 16)]
theorem phex_snoc (l : List UInt8) (c : UInt8) : phex (l ++ [c]) = phex l ++ [hx (c.toNat / 16), hx (c.toNat % 16)] := by simp [phex]
theorem phex_len (l : List UInt8) : (phex l).length = 2 * l.length := by
  induction l with
  | nil => rfl
  | cons a l ih => simp only [phex, List.flatMap_cons, List.length_append, List.length_cons, List.length_nil] at ih ⊢; omega
theorem phex_dig (l : List UInt8) : ∀ c ∈ phex l, dv c < 16 := by
  intro c hc
  simp only [phex, List.mem_flatMap, List.mem_cons, List.not_mem_nil, or_false] at hc
  obtain ⟨a, _, rfl | rfl⟩ := hc
  · rw [dv_hx _ (by have := a.toNat_lt; omega)]; have := a.toNat_lt; omega
  · rw [dv_hx _ (by omega)]; omega
/-- digits as bytes -/
def punhex : List UInt8 → List UInt8
  | a :: b :: l => UInt8.ofNat (16 * dv a + dv b) :: punhex l
  | _ => []
/-- the first k bytes of digits -/
def unTo (l : List UInt8) (k : Nat) : List UInt8 := (List.range k).map fun i => UInt8.ofNat (16 * dv (g8 l (2 * i)) + dv (g8 l (2 * i + 1)))
theorem unTo_succ (l : List UInt8) (k : Nat) : unTo l (k + 1) = unTo l k ++ [UInt8.ofNat (16 * dv (g8 l (2 * k)) + dv (g8 l (2 * k + 1)))] := by simp [unTo, List.range_succ]
theorem unTo_len (l : List UInt8) (k : Nat) : (unTo l k).length = k := by simp [unTo]
/-- digits through a table -/
def pthr (l t : List UInt8) : List UInt8 := l.map fun c => g8 t (dv c)
theorem pthr_len (l t : List UInt8) : (pthr l t).length = l.length := by simp [pthr]
/-- sums of digits -/
def padd (a b : UInt8) (back : Bool) : UInt8 := hx (if back then (dv a + (10 - dv b)) % 10 else (dv a + dv b) % 10)
def pmod (a b : List UInt8) (back : Bool) : List UInt8 := (List.range a.length).map fun i => padd (g8 a i) (g8 b i) back
theorem pmod_len (a b : List UInt8) (back : Bool) : (pmod a b back).length = a.length := by simp [pmod]
def modTo (a b : List UInt8) (back : Bool) (k : Nat) : List UInt8 := (List.range k).map fun i => padd (g8 a i) (g8 b i) back
theorem modTo_succ (a b : List UInt8) (back : Bool) (k : Nat) : modTo a b back (k + 1) = modTo a b back k ++ [padd (g8 a k) (g8 b k) back] := by simp [modTo, List.range_succ]
theorem modTo_len (a b : List UInt8) (back : Bool) (k : Nat) : (modTo a b back k).length = k := by simp [modTo]
theorem pmod_get (a b : List UInt8) (back : Bool) (k : Nat) (h : k < a.length) : g8 (pmod a b back) k = padd (g8 a k) (g8 b k) back := by
  simp [pmod, g8, h]
theorem padd_dig (a b : UInt8) (back : Bool) : dv (padd a b back) < 10 := by
  unfold padd
  cases back
  · rw [dv_hx _ (by simp; omega)]; simp; omega
  · rw [dv_hx _ (by simp; omega)]; simp; omega
def ofL (l : List UInt8) : ByteArray := ⟨l.toArray⟩
theorem sb_ofL (l : List UInt8) : sb (ofL l) = l := by simp [sb, ofL]
theorem ofL_sb (s : ByteArray) : ofL (sb s) = s := by cases s; simp [sb, ofL]
theorem ofL_size (l : List UInt8) : (ofL l).size = l.length := by rw [← sb_len, sb_ofL]
theorem sb_inj {s t : ByteArray} (h : sb s = sb t) : s = t := by rw [← ofL_sb s, ← ofL_sb t, h]
theorem sb_extract (s : ByteArray) (a b : Nat) : sb (s.extract a b) = ((sb s).drop a).take (b - a) := Lib.extract_data s a b
/-- what is wrong with decimal digits -/
def pwrong (s : List UInt8) (least most : Nat) : Int × Int := if s.length < least ∨ most < s.length then (2, -1) else if 0 ≤ pf 10 s then (16, pf 10 s) else (0, -1)
end Lk
set_option linter.unusedVariables false
set_option linter.unusedSimpArgs false
namespace Go.Proofs.YtbbfjlnkhenbiaaDoor
open Go Go.RowKit Lk
/-- the error is of this number and place (0, -1: none; a place below 0: without a fault) -/
def ErOf (w : World) (v : Value) (why pl : Int) : Prop := (why = 0 ∧ pl = -1 ∧ v = .nilIface) ∨ (why ≠ 0 ∧ pl = -1 ∧ ErV w [] why v) ∨ (why ≠ 0 ∧ 0 ≤ pl ∧ ErV w [pl] why v)
theorem ErOf.below {w w1 : World} {v : Value} {why pl : Int} (h : ErOf w v why pl) (hL : Below w.heap.size w w1) : ErOf w1 v why pl := by
  rcases h with h | ⟨h1, h2, h3⟩ | ⟨h1, h2, h3⟩
  · exact .inl h
  · exact .inr (.inl ⟨h1, h2, h3.below hL⟩)
  · exact .inr (.inr ⟨h1, h2, h3.below hL⟩)
theorem ErOf.nil {w : World} {v : Value} (h : ErOf w v 0 (-1)) : v = .nilIface := by
  rcases h with h | ⟨h1, _⟩ | ⟨h1, _⟩
  · exact h.2.2
  · exact absurd rfl h1
  · exact absurd rfl h1
theorem ErOf.form {w : World} {v : Value} {why pl : Int} (h : ErOf w v why pl) (hw : why ≠ 0) : ∃ T x, v = .iface T x := by
  rcases h with h | ⟨h1, _, h3⟩ | ⟨h1, _, h3⟩
  · exact absurd h.1 hw
  · exact h3.form
  · exact h3.form
theorem erOf_nil (w : World) : ErOf w .nilIface 0 (-1) := .inl ⟨rfl, rfl, rfl⟩
theorem erOf_no (w : World) (k : Int) (h : k ≠ 0) : ErOf w (.iface 68 (.int .i64 k)) k (-1) := .inr (.inl ⟨h, rfl, rfl⟩)
theorem Code_of {v : Value} {why pl : Int} {w : World} (hE : Et w) (h : ErOf w v why pl) : Calls Tryd.prog 13 #[v] w fun e w' => e = .returned (.int .i64 why) ∧ Below w.heap.size w w' := by
  rcases h with ⟨rfl, rfl, rfl⟩ | ⟨h1, h2, h3⟩ | ⟨h1, h2, h3⟩
  · exact Code_nil w
  · exact Code_any [] why v w hE h3
  · exact Code_any [pl] why v w hE h3
end Go.Proofs.YtbbfjlnkhenbiaaDoor
set_option linter.unusedVariables false
set_option linter.unusedSimpArgs false
namespace Go.Proofs.YtbbfjlnkhenbiaaDoor
open Go Go.RowKit Lk
theorem wrong_any (k : Int) (w : World) : Calls Tryd.prog 64 #[.int .i64 k] w fun e w' => ∃ v, e = .returned v ∧ ErV w' [k] 16 v ∧ Below w.heap.size w w' := by
  go_enter Tryd.func64, Tryd.ntmps64
  go_wp2
  go_ret
  exact ⟨_, rfl, ⟨w.heap.size, _, rfl, heap_alloc_new w _, rfl⟩, below_alloc (Below.refl _ _) (Nat.le_refl _) _⟩
theorem Decimal_any (s : ByteArray) (w : World) (hs : s.size ≤ 1000000) : Calls Tryd.prog 97 #[.string s] w fun e w' => e = .returned (.bool (decide (pf 10 (sb s) < 0))) ∧ w' = w := by
  have HF := Lib.hid (first_any s D10 w hs)
  obtain ⟨P, hP⟩ : ∃ P, dfirst s D10 = P := ⟨_, rfl⟩
  rw [hP] at HF
  have HP := Lib.hid (show decide (P < 0) = decide (pf 10 (sb s) < 0) from by rw [← dfirst10, hP])
  clear hP hs
  go_enter Tryd.func97, Tryd.ntmps97
  go_wp2_with (go_at_call 63; refine HF.out.mono ?_; rintro e w ⟨rfl, rfl⟩)
  go_ret
  exact ⟨by rw [← HP.out]; rfl, rfl⟩
theorem pf_one (c : UInt8) : decide (pf 10 [c] < 0) = decide (dv c < 10) := by
  rcases pf_cases 10 [c] with ⟨h1, h2⟩ | ⟨k, h1, h2, h3, h4⟩
  · rw [h1]; have := h2 0 (by simp); simp [g8] at this; simp [this]
  · obtain rfl : k = 0 := by simpa using h2
    simp [g8] at h3
    rw [h1]; simp; omega
theorem erOf_alloc (w : World) (pl : Nat) (k : Int) (hk : k ≠ 0) : ErOf (w.alloc (.cells #[.int .i64 pl, .iface 68 (.int .i64 k)] 180)) (.iface 178 (.pointer (some ⟨w.heap.size, 0, none⟩))) k pl :=
  .inr (.inr ⟨hk, by omega, w.heap.size, _, rfl, heap_alloc_new _ _, rfl⟩)
theorem decimal_less (s : ByteArray) (least most : Nat) (w : World) (h1 : s.size < least) : Calls Tryd.prog 62 #[.string s, .int .i64 least, .int .i64 most] w fun e w' => ∃ v, e = .returned v ∧ ErOf w' v 2 (-1) ∧ Below w.heap.size w w' := by
  have i1 : (s.size : Int) < (least : Int) := by omega
  clear h1
  go_enter Tryd.func62, Tryd.ntmps62
  go_wp2
  go_ret
  exact ⟨_, rfl, erOf_no _ _ (by decide), Below.refl _ _⟩
theorem decimal_more (s : ByteArray) (least most : Nat) (w : World) (h1 : ¬ s.size < least) (h2 : most < s.size) : Calls Tryd.prog 62 #[.string s, .int .i64 least, .int .i64 most] w fun e w' => ∃ v, e = .returned v ∧ ErOf w' v 2 (-1) ∧ Below w.heap.size w w' := by
  have i1 : ¬ (s.size : Int) < (least : Int) := by omega
  have i2 : (s.size : Int) > (most : Int) := by omega
  clear h1 h2
  go_enter Tryd.func62, Tryd.ntmps62
  go_wp2
  go_ret
  exact ⟨_, rfl, erOf_no _ _ (by decide), Below.refl _ _⟩
/-- a digit's error -/
def DgE (w : World) (v : Value) (p : Int) : Prop := (p = -1 ∧ v = .nilIface) ∨ (0 ≤ p ∧ ErV w [p] 16 v)
theorem dge_alloc (w : World) (k : Nat) : DgE (w.alloc (.cells #[.int .i64 k, .iface 68 (.int .i64 16)] 180)) (.iface 178 (.pointer (some ⟨w.heap.size, 0, none⟩))) k :=
  .inr ⟨by omega, w.heap.size, _, rfl, heap_alloc_new _ _, rfl⟩
theorem decimal_loop (s : ByteArray) (least most : Nat) (w : World) (hs : s.size ≤ 1000) (h1 : ¬ s.size < least) (h2 : ¬ most < s.size) : Calls Tryd.prog 62 #[.string s, .int .i64 least, .int .i64 most] w fun e w' => ∃ v, e = .returned v ∧ DgE w' v (pf 10 (sb s)) ∧ Below w.heap.size w w' := by
  obtain ⟨P, hP⟩ : ∃ P, pf 10 (sb s) = P := ⟨_, rfl⟩
  rw [hP]
  have HP := Lib.hid hP
  have i1 : ¬ (s.size : Int) < (least : Int) := by omega
  have i2 : ¬ (s.size : Int) > (most : Int) := by omega
  have HD := Lib.hid (fun (w : World) (k : Nat) (h : k < s.size) => by
    have h1 := Decimal_any (s.extract k (k + 1)) w (by rw [ByteArray.size_extract]; omega)
    rw [show sb (s.extract k (k + 1)) = [g8 (sb s) k] from by
      rw [sb_extract, show k + 1 - k = 1 by omega]
      have : k < (sb s).length := by rw [sb_len]; exact h
      rw [List.drop_eq_getElem_cons this, List.take_succ_cons, List.take_zero]
      unfold g8
      simp [this], pf_one] at h1
    exact h1)
  have HSZ := Lib.hid hs
  clear h1 h2 hs hP
  go_enter Tryd.func62, Tryd.ntmps62
  go_wp2
  go_loopw [21] (fun i wr => ∃ k : Nat, k ≤ s.size ∧ i = .int .i64 k ∧ (∀ j, j < k → dv (g8 (sb s) j) < 10) ∧ wr = w) (fun i _ => s.size - (intOf i).toNat)
  case atStart => exact ⟨0, by omega, rfl, fun j hj => by omega, rfl⟩
  case round =>
    obtain ⟨k, hk, rfl, hok, rfl⟩ := hrel
    by_cases hlt : k < s.size
    · have hik : (k : Int) < (s.size : Int) := by omega
      have hik1 : (k : Int) + 1 ≤ (s.size : Int) := by omega
      have HLT := Lib.hid hlt
      have HSZk := HSZ.out
      have hw1 : wrap64 ((k : Int) + 1) = (k : Int) + 1 := by unfold wrap64; omega
      have HW1 := Lib.hid hw1
      clear HSZk
      have HOK := Lib.hid hok
      have HDk := Lib.hid (HD.out wr k hlt)
      obtain ⟨q, hq⟩ : ∃ q, decide (dv (g8 (sb s) k) < 10) = q := ⟨_, rfl⟩
      rw [hq] at HDk
      have HQ := Lib.hid hq
      clear hok hq
      cases q
      · go_wp2_with (go_at_call 97; refine HDk.out.mono ?_; rintro e w5 ⟨rfl, rfl⟩)
        have hpf : P = (k : Int) := by rw [← HP.out]; exact pf_at (by rw [sb_len]; exact HLT.out) HOK.out (by have := HQ.out; simpa using this)
        go_ret
        rw [hpf]
        exact ⟨_, rfl, dge_alloc _ _, below_alloc (Below.refl _ _) (Nat.le_refl _) _⟩
      · go_wp2_with (go_at_call 97; refine HDk.out.mono ?_; rintro e w5 ⟨rfl, rfl⟩)
        refine ⟨⟨k + 1, HLT.out, by go_num, fun j hj => ?_, by first | rfl | trivial⟩, by rw [HW1.out]; have := HLT.out; show s.size - ((k : Int) + 1).toNat < s.size - (k : Int).toNat; omega⟩
        by_cases e : j = k
        · rw [e]; have := HQ.out; simpa using this
        · exact HOK.out j (by omega)
    · have hik : ¬ (k : Int) < (s.size : Int) := by omega
      have hpf : P = -1 := by rw [← HP.out]; exact pf_none (b := 10) (l := sb s) fun j hj => hok j (by rw [sb_len] at hj; omega)
      clear hok
      go_wp2
      go_ret
      exact ⟨_, rfl, .inl ⟨by first | exact hpf | rfl, rfl⟩, Below.refl _ _⟩
/-- decimal digits, so many -/
theorem decimal_any (s : ByteArray) (least most : Nat) (w : World) (hs : s.size ≤ 1000) : Calls Tryd.prog 62 #[.string s, .int .i64 least, .int .i64 most] w fun e w' => ∃ v, e = .returned v ∧ ErOf w' v (pwrong (sb s) least most).1 (pwrong (sb s) least most).2 ∧ Below w.heap.size w w' := by
  unfold pwrong
  rw [sb_len]
  by_cases h1 : s.size < least
  · rw [if_pos (.inl h1)]
    exact decimal_less s least most w h1
  by_cases h2 : most < s.size
  · rw [if_pos (.inr h2)]
    exact decimal_more s least most w h1 h2
  rw [if_neg (by omega)]
  refine (decimal_loop s least most w hs h1 h2).mono ?_
  rintro e w' ⟨v, rfl, h3, h4⟩
  refine ⟨v, rfl, ?_, h4⟩
  rcases h3 with ⟨h5, rfl⟩ | ⟨h5, h6⟩
  · rw [if_neg (by omega)]; exact erOf_nil _
  · rw [if_pos h5]; exact .inr (.inr ⟨by show (16 : Int) ≠ 0; decide, h5, h6⟩)
theorem Right_any (s : ByteArray) (w : World) (hs : s.size ≤ 1000) : Calls Tryd.prog 61 #[.string s] w fun e w' => ∃ v, e = .returned v ∧ ErOf w' v (pwrong (sb s) 4 12).1 (pwrong (sb s) 4 12).2 ∧ Below w.heap.size w w' := by
  have HD := Lib.hid (decimal_any s 4 12 w hs)
  clear hs
  go_enter Tryd.func61, Tryd.ntmps61
  go_wp2_with (go_at_call 62; refine HD.out.mono ?_; rintro e w1 ⟨v, rfl, h1, h2⟩)
  go_ret
  exact ⟨_, rfl, h1, h2⟩
theorem Account_any (s : ByteArray) (w : World) (hs : s.size ≤ 1000) : Calls Tryd.prog 40 #[.string s] w fun e w' => ∃ v, e = .returned v ∧ ErOf w' v (pwrong (sb s) 13 19).1 (pwrong (sb s) 13 19).2 ∧ Below w.heap.size w w' := by
  have HD := Lib.hid (decimal_any s 13 19 w hs)
  clear hs
  go_enter Tryd.func40, Tryd.ntmps40
  go_wp2_with (go_at_call 62; refine HD.out.mono ?_; rintro e w1 ⟨v, rfl, h1, h2⟩)
  go_ret
  exact ⟨_, rfl, h1, h2⟩
end Go.Proofs.YtbbfjlnkhenbiaaDoor
set_option linter.unusedVariables false
namespace Go.Proofs.YtbbfjlnkhenbiaaDoor
open Go Go.Proofs Go.Shelf Go.RowKit Lk
def shl_lays167_ren : Go.Shelf.Ren := ⟨fun | 167 => 66 | 240 => 99 | 276 => 109 | n => n, fun | 0 => 0 | 4 => 4 | 5 => 5 | 9 => 9 | 20 => 20 | 37 => 22 | 70 => 124 | 72 => 126 | 75 => 29 | 80 => 128 | 164 => 96 | n => n, fun | n => n⟩
theorem shl_lays167 : Go.Proofs.Lays.n167 Tryd.prog shl_lays167_ren := {
  mixed := by kernel_rfl
  f167 := Tryd.func66.trans (congrArg some (by kernel_rfl))
  f240 := Tryd.func99.trans (congrArg some (by kernel_rfl))
  f276 := Tryd.func109.trans (congrArg some (by kernel_rfl))
  t0 := Tryd.underlying0
  a0 := Tryd.isAgg0
  z0 := Tryd.sizeOf0
  v0 := Tryd.zeroValue0
  t4 := Tryd.underlying4
  a4 := Tryd.isAgg4
  z4 := Tryd.sizeOf4
  v4 := Tryd.zeroValue4
  t5 := Tryd.underlying5
  a5 := Tryd.isAgg5
  z5 := Tryd.sizeOf5
  v5 := Tryd.zeroValue5
  t9 := Tryd.underlying9
  a9 := Tryd.isAgg9
  z9 := Tryd.sizeOf9
  v9 := Tryd.zeroValue9
  t20 := Tryd.underlying20
  a20 := Tryd.isAgg20
  z20 := Tryd.sizeOf20
  v20 := Tryd.zeroValue20
  t37 := Tryd.underlying22
  a37 := Tryd.isAgg22
  z37 := Tryd.sizeOf22
  v37 := Tryd.zeroValue22
  t70 := Tryd.underlying124
  a70 := Tryd.isAgg124
  z70 := Tryd.sizeOf124
  v70 := Tryd.zeroValue124
  t72 := Tryd.underlying126
  a72 := Tryd.isAgg126
  z72 := Tryd.sizeOf126
  v72 := Tryd.zeroValue126
  t75 := Tryd.underlying29
  a75 := Tryd.isAgg29
  z75 := Tryd.sizeOf29
  v75 := Tryd.zeroValue29
  t164 := Tryd.underlying96
  a164 := Tryd.isAgg96
  z164 := Tryd.sizeOf96
  v164 := Tryd.zeroValue96 }
theorem shl_Builder_Extra_167 : Builder.Extra Tryd.prog shl_lays167_ren := {
  sizeBuilder := by kernel_rfl
  liesBuilder := by kernel_rfl
  t5 := Tryd.underlying5
  a5 := Tryd.isAgg5
  z5 := Tryd.sizeOf5
  v5 := Tryd.zeroValue5
  infoByte := by kernel_rfl
  cellsByte := by kernel_rfl
  sizeByte := by kernel_rfl
  neB5 := by decide }
/-- a builder in a block of its own that holds these bytes -/
def Bd (w : World) (B b : Nat) (l : List UInt8) : Prop := Lib.IsBuilder 126 5 B b (Lib.byteCells l) w
theorem Bd.lt {w : World} {B b : Nat} {l : List UInt8} (h : Bd w B b l) : B ≤ b ∧ b < w.heap.size := by
  rcases h with h | h
  · exact ⟨h.1, h.lt⟩
  · exact ⟨h.1, h.lt⟩
theorem Bd.under {w w1 : World} {B b : Nat} {l : List UInt8} (h : Bd w B b l) (hL : Below w.heap.size w w1) : Bd w1 B b l := by
  have key : ∀ p, Lib.BuilderAt 126 5 B b p (Lib.byteCells l) w → Lib.BuilderAt 126 5 B b p (Lib.byteCells l) w1 := by
    rintro p h
    have hlt := h.lt
    obtain ⟨h1, v, h2, h3, h4⟩ := h
    refine ⟨h1, v, by rw [hL.block b hlt]; exact h2, ?_, h4⟩
    exact h3.kept (row := none) (grown_of_below hL none) (by cases h : v.ownBlock with
      | none => exact .inl rfl
      | some k => exact .inr (by simp))
  rcases h with h | h
  · exact .inl (key _ h)
  · exact .inr (key _ h)
theorem Bd_new (w : World) (B : Nat) (hB : B ≤ w.heap.size) : Bd (w.alloc (.cells #[.pointer none, .slice none 0 0] 126)) B w.heap.size [] :=
  Or.inl ⟨hB, .slice none 0 0, heap_alloc_new w _, World.ownsRow_nil _ _ _ _, by simp [Value.ownBlock]⟩
theorem WriteByte_any (B b : Nat) (l : List UInt8) (c : UInt8) (w : World) (h : Bd w B b l) (hl : l.length ≤ 1000000) (hBw : B ≤ w.heap.size) :
    Calls Tryd.prog 66 #[.pointer (some ⟨b, 0, none⟩), .int .u8 (bv c)] w fun e w' => e = .returned .nilIface ∧ Bd w' B b (l ++ [c]) ∧ Below B w w' := by
  refine (Any.Builder_WriteByte shl_lays167 shl_Builder_Extra_167 B b (Lib.byteCells l) (bv c) w h (by rw [Lib.byteCells_length]; omega) hBw).mono ?_
  rintro e w' ⟨rfl, h1, h2⟩
  refine ⟨rfl, .inr ?_, h2⟩
  have : Lib.byteCells (l ++ [c]) = Lib.byteCells l ++ [.int .u8 (bv c)] := by simp [Lib.byteCells, bv]
  rw [this]
  exact h1
theorem String_any (B b : Nat) (l : List UInt8) (w : World) (h : Bd w B b l) (hBw : B ≤ w.heap.size) :
    Calls Tryd.prog 67 #[.pointer (some ⟨b, 0, none⟩)] w fun e w' => e = .returned (.string (ofL l)) ∧ Below B w w' := shl_Builder_String_any B b l w h hBw
end Go.Proofs.YtbbfjlnkhenbiaaDoor
set_option linter.unusedVariables false
set_option linter.unusedSimpArgs false
namespace Lk
open Go Go.RowKit
@[go_sem high] theorem fold_D16 : (⟨#[48, 49, 50, 51, 52, 53, 54, 55, 56, 57, 65, 66, 67, 68, 69, 70]⟩ : ByteArray) = D16 := rfl
theorem D16_get (n : Nat) (h : n < 16) : (((D16[n]'h).toNat : Nat) : Int) = bv (hx n) := by
  have : ∀ n : Fin 16, (((D16[n.val]'n.isLt).toNat : Nat) : Int) = bv (hx n.val) := by decide +kernel
  exact this ⟨n, h⟩
theorem run_ix16 {P : Program} (w : World) (t : TypeId) (k : IntKind) (n : Nat) (i : Int) (h : P.underlying t = some .string) (hi : i = (n : Int)) (hn : n < 16) : (Instr.index t (.string D16) (.int k i)).run P w = .ok (.int .u8 (bv (hx n))) w := by
  subst hi
  have hs : (n : Int) < (D16.size : Int) := by show (n : Int) < 16; omega
  rw [run_index_string w t D16 k _ h, dif_pos ⟨Int.natCast_nonneg n, hs⟩, ← D16_get n hn]
  rfl
theorem bv_div16 (c : UInt8) : bv c / 16 = ((c.toNat / 16 : Nat) : Int) := by unfold bv; omega
theorem bv_mod16 (c : UInt8) : bv c % 16 = ((c.toNat % 16 : Nat) : Int) := by unfold bv; omega
theorem bv_and15 (c : UInt8) : Go.bits .and .u8 (bv c) 15 = ((c.toNat % 16 : Nat) : Int) := by
  have := bv_and c 15
  rw [show bv 15 = 15 from rfl] at this
  rw [this]
  revert c
  exact all8 _ (by decide +kernel)
@[go_sem high] theorem run_ix_hi {P : Program} (w : World) (t : TypeId) (k : IntKind) (c : UInt8) (h : P.underlying t = some .string) : (Instr.index t (.string D16) (.int k (bv c / 16))).run P w = .ok (.int .u8 (bv (hx (c.toNat / 16)))) w := run_ix16 w t k _ _ h (bv_div16 c) (by have := c.toNat_lt; omega)
@[go_sem high] theorem run_ix_lo {P : Program} (w : World) (t : TypeId) (k : IntKind) (c : UInt8) (h : P.underlying t = some .string) : (Instr.index t (.string D16) (.int k (bv c % 16))).run P w = .ok (.int .u8 (bv (hx (c.toNat % 16)))) w := run_ix16 w t k _ _ h (bv_mod16 c) (by omega)
@[go_sem high] theorem run_ix_la {P : Program} (w : World) (t : TypeId) (k : IntKind) (c : UInt8) (h : P.underlying t = some .string) : (Instr.index t (.string D16) (.int k (Go.bits .and .u8 (bv c) 15))).run P w = .ok (.int .u8 (bv (hx (c.toNat % 16)))) w := run_ix16 w t k _ _ h (bv_and15 c) (by omega)
end Lk
namespace Go.Proofs.YtbbfjlnkhenbiaaDoor
open Go Go.RowKit Lk
set_option maxHeartbeats 1600000 in
set_option maxRecDepth 100000 in
theorem Hex_any (v : Value) (b : List UInt8) (w : World) (h : SlB w v b) (hl : b.length ≤ 1000) : Calls Tryd.prog 43 #[v] w fun e w' => e = .returned (.string (ofL (phex b))) ∧ Below w.heap.size w w' := by
  obtain ⟨N, hN⟩ : ∃ N, w.heap.size = N := ⟨_, rfl⟩
  have HN := Lib.hid hN
  obtain ⟨A, c, rfl, hA, hlc, hcm, hr⟩ := h
  have HL := Lib.hid hl
  obtain ⟨L, eL⟩ : ∃ L, b.length = L := ⟨_, rfl⟩
  have EL := Lib.hid eL
  have HR := Lib.hid hr
  rw [eL] at hl hlc ⊢
  have hb0 := Bd_new w N (by omega)
  have hM0 : Below N w (w.alloc (.cells #[.pointer none, .slice none 0 0] 126)) := below_alloc (Below.refl _ _) (by omega) _
  have hz0 : N ≤ (w.alloc (.cells #[.pointer none, .slice none 0 0] 126)).heap.size := by simp; omega
  rw [hN] at hb0
  have HB0 := Lib.hid hb0
  have HM0 := Lib.hid hM0
  have HC := Lib.hid hlc
  clear hA hcm hr hb0 hM0 hz0 hl hlc hN eL
  go_enter Tryd.func43, Tryd.ntmps43
  go_wp2
  rw [HN.out]
  go_loopw [8] (fun i wr => ∃ k : Nat, k ≤ L ∧ i = .int .i64 k ∧ Bd wr N N (phex (b.take k)) ∧ Below N w wr) (fun i _ => L - (intOf i).toNat)
  case atStart => exact ⟨0, by omega, rfl, HB0.out, HM0.out⟩
  case round =>
    obtain ⟨k, hk, rfl, hB, hM⟩ := hrel
    have HB := Lib.hid hB
    have HM := Lib.hid hM
    clear hB hM
    by_cases hlt : k < L
    · have hik : (k : Int) < (L : Int) := by omega
      have HLT := Lib.hid hlt
      obtain ⟨gt, ot, rfl, hrd0⟩ := HR.out (by have := HC.out; omega)
      have hrd := hrd0.under3 (w1 := wr) (by rw [HN.out]; exact HM.out)
      have cc := hrd.cell k (by rw [EL.out]; exact hlt)
      clear hrd hrd0
      obtain ⟨h1, eh1⟩ : ∃ h1, hx ((g8 b k).toNat / 16) = h1 := ⟨_, rfl⟩
      obtain ⟨h2, eh2⟩ : ∃ h2, hx ((g8 b k).toNat % 16) = h2 := ⟨_, rfl⟩
      have E1 := Lib.hid eh1
      have E2 := Lib.hid eh2
      clear eh1 eh2
      have HPL := Lib.hid (show (phex (b.take k)).length ≤ 3000 from by rw [phex_len, List.length_take]; have := HL.out; omega)
      go_wp2_with (first
        | (go_at_call 66; (with_reducible show Calls _ _ _ wr _); rw [E1.out]; refine (WriteByte_any N N (phex (b.take k)) h1 wr HB.out (by have := HPL.out; omega) (by have := HM.out.size; have := HN.out; omega)).mono ?_; rintro e w1 ⟨rfl, hB1, hM1⟩)
        | (go_at_call 66; (with_reducible show Calls _ _ _ w1 _); rw [E2.out]; refine (WriteByte_any N N (phex (b.take k) ++ [h1]) h2 w1 hB1 (by have := HPL.out; rw [List.length_append]; simp; omega) (by have := HM.out.size; have := hM1.size; have := HN.out; omega)).mono ?_; rintro e w2 ⟨rfl, hB2, hM2⟩))
      have hz : N ≤ w.heap.size := by have := HN.out; omega
      have HLL : L ≤ 1000 := by have := HL.out; have := EL.out; omega
      refine ⟨⟨k + 1, HLT.out, by have := HLT.out; rw [show wrap64 ((k : Int) + 1) = ((k + 1 : Nat) : Int) from by unfold wrap64; omega], ?_, below_mr (below_mr HM.out hM1 (by omega)) hM2 (by omega)⟩, by have := HLT.out; rw [show wrap64 ((k : Int) + 1) = (k : Int) + 1 from by unfold wrap64; omega]; show L - ((k : Int) + 1).toNat < L - (k : Int).toNat; omega⟩
      have hk : k < b.length := by rw [EL.out]; exact HLT.out
      rw [show b.take (k + 1) = b.take k ++ [g8 b k] from by rw [List.take_add_one]; simp [g8, hk], phex_snoc, E1.out, E2.out]
      rw [List.append_assoc] at hB2
      exact hB2
    · obtain rfl : k = L := by omega
      have hik : ¬ (k : Int) < (k : Int) := by omega
      have HB2 := Lib.hid (show Bd wr N N (phex b) from by have := HB.out; rwa [List.take_of_length_le (by have := EL.out; omega)] at this)
      go_wp2_with (go_at_call 67; refine (String_any N N (phex b) wr HB2.out (by have := HM.out.size; have := HN.out; omega)).mono ?_; rintro e w1 ⟨rfl, hM1⟩)
      go_ret
      exact ⟨rfl, by rw [HN.out]; exact below_mr HM.out hM1 (by have := HN.out; omega)⟩
end Go.Proofs.YtbbfjlnkhenbiaaDoor
set_option linter.unusedVariables false
set_option linter.unusedSimpArgs false
namespace Go.Proofs.YtbbfjlnkhenbiaaDoor
open Go Go.RowKit Lk
theorem D16_10 : D16.extract 0 10 = D10 := by decide +kernel
theorem sget_bv (s : ByteArray) (k : Nat) (h : k < s.size) : (((s[k]'h).toNat : Nat) : Int) = bv (g8 (sb s) k) := by rw [sget s k h]; rfl
set_option maxHeartbeats 1600000 in
set_option maxRecDepth 100000 in
theorem Through_size (s t : ByteArray) (w : World) (ht : t.size ≠ 16) : Calls Tryd.prog 42 #[.string s, .string t] w fun e w' => e = .returned (.tuple #[.string ByteArray.empty, .iface 68 (.int .i64 2)]) ∧ w' = w := by
  have i1 : ((t.size : Int) != 16) = true := by simp; omega
  clear ht
  go_enter Tryd.func42, Tryd.ntmps42
  go_wp2
  go_ret2
  exact ⟨rfl, rfl⟩
set_option maxHeartbeats 1600000 in
set_option maxRecDepth 100000 in
theorem Through_bad (s t : ByteArray) (k : Nat) (w : World) (ht : t.size = 16) (hk : pf 10 (sb t) = (k : Int)) (hk2 : k < 16) : Calls Tryd.prog 42 #[.string s, .string t] w fun e w' => ∃ v, e = .returned (.tuple #[.string ByteArray.empty, v]) ∧ ErV w' [16 + (k : Int)] 16 v ∧ Below w.heap.size w w' := by
  have HF := Lib.hid (first_any t D10 w (by omega))
  rw [dfirst10, hk] at HF
  have hw1 : wrap64 (16 + (k : Int)) = 16 + (k : Int) := by unfold wrap64; omega
  have HW := Lib.hid (wrong_any (16 + (k : Int)) w)
  have i1 : ((t.size : Int) != 16) = false := by rw [ht]; rfl
  have i2 : (k : Int) ≥ 0 := by omega
  clear ht hk hk2
  go_enter Tryd.func42, Tryd.ntmps42
  go_wp2_with (first
    | (go_at_call 63; rw [D16_10]; refine HF.out.mono ?_; rintro e w ⟨rfl, rfl⟩)
    | (go_at_call 64; refine HW.out.mono ?_; rintro e w1 ⟨v, rfl, hE, hL⟩))
  go_ret2
  exact ⟨_, rfl, hE, hL⟩
set_option maxHeartbeats 3200000 in
set_option maxRecDepth 100000 in
theorem Through_ok (s t : ByteArray) (w : World) (hs : s.size ≤ 1000) (hd : ∀ c ∈ sb s, dv c < 16) (ht : t.size = 16) (hk : pf 10 (sb t) = -1) : Calls Tryd.prog 42 #[.string s, .string t] w fun e w' => e = .returned (.tuple #[.string (ofL (pthr (sb s) (sb t))), .nilIface]) ∧ Below w.heap.size w w' := by
  obtain ⟨N, hN⟩ : ∃ N, w.heap.size = N := ⟨_, rfl⟩
  have HN := Lib.hid hN
  have HF := Lib.hid (first_any t D10 w (by omega))
  rw [dfirst10, hk] at HF
  have HG := Lib.hid (first_any s D16 w (by omega))
  have hd2 : ∀ j, j < s.size → dv (g8 (sb s) j) < 16 := fun j hj => by
    have hj' : j < (sb s).length := by rw [sb_len]; exact hj
    have : g8 (sb s) j ∈ sb s := by unfold g8; simp [hj']
    exact hd _ this
  rw [dfirst16, pf_none (b := 16) (l := sb s) (fun j hj => hd2 j (by rwa [sb_len] at hj))] at HG
  have HD := Lib.hid hd2
  have HT := Lib.hid ht
  have HSZ := Lib.hid hs
  have i1 : ((t.size : Int) != 16) = false := by rw [ht]; rfl
  have hb0 := Bd_new w N (by omega)
  have hM0 : Below N w (w.alloc (.cells #[.pointer none, .slice none 0 0] 126)) := below_alloc (Below.refl _ _) (by omega) _
  rw [hN] at hb0
  have HB0 := Lib.hid hb0
  have HM0 := Lib.hid hM0
  have hx : ∀ (k : Nat) (h : k < s.size), Lib.indexByte D16.data.toList (((s[k]'h).toNat : Int)).toNat.toUInt8 = (dv (g8 (sb s) k) : Int) := fun k h => by
    rw [sget s k h]
    have e : (((g8 (sb s) k).toNat : Int)).toNat.toUInt8 = g8 (sb s) k := by simp
    rw [e, index16, if_neg (by have := hd2 k h; omega)]
  have HX := Lib.hid hx
  clear hs hd hd2 ht hk hb0 hM0 hx hN
  go_enter Tryd.func42, Tryd.ntmps42
  go_wp2_with (first
    | (go_at_call 63; rw [D16_10]; refine HF.out.mono ?_; rintro e w ⟨rfl, rfl⟩)
    | (go_at_call 63; refine HG.out.mono ?_; rintro e w ⟨rfl, rfl⟩))
  rw [HN.out]
  go_loopw [30] (fun i wr => ∃ k : Nat, k ≤ s.size ∧ i = .int .i64 k ∧ Bd wr N N (pthr ((sb s).take k) (sb t)) ∧ Below N w wr) (fun i _ => s.size - (intOf i).toNat)
  case atStart => exact ⟨0, by omega, rfl, HB0.out, HM0.out⟩
  case round =>
    obtain ⟨k, hk, rfl, hB, hM⟩ := hrel
    have HB := Lib.hid hB
    have HM := Lib.hid hM
    clear hB hM
    by_cases hlt : k < s.size
    · have hik : (k : Int) < (s.size : Int) := by omega
      have HLT := Lib.hid hlt
      have hdv := HD.out k hlt
      obtain ⟨d, ed⟩ : ∃ d, dv (g8 (sb s) k) = d := ⟨_, rfl⟩
      rw [ed] at hdv
      have ED := Lib.hid ed
      have hd1 : d < t.size := by rw [HT.out]; exact hdv
      have hd2 : (d : Int) < (t.size : Int) := by omega
      have HTD := Lib.hid (sget_bv t d hd1)
      obtain ⟨c, ec⟩ : ∃ c, g8 (sb t) d = c := ⟨_, rfl⟩
      rw [ec] at HTD
      have EC := Lib.hid ec
      have HPL := Lib.hid (show (pthr ((sb s).take k) (sb t)).length ≤ 3000 from by rw [pthr_len, List.length_take, sb_len]; have := HSZ.out; omega)
      clear ed ec hdv
      go_wp2_with (first
        | (go_at_call 65; refine (shl_strings_IndexByte D16 _ wr).mono ?_; rintro e w5 ⟨he, hw⟩; rw [HX.out k HLT.out, ED.out] at he; subst he; subst hw)
        | (go_at_call 66; go_loud (rw [HTD.out]; refine (WriteByte_any N N (pthr ((sb s).take k) (sb t)) c _ HB.out (by have := HPL.out; omega) (by have := HM.out.size; have := HN.out; omega)).mono ?_; rintro e w1 ⟨rfl, hB1, hM1⟩)))
      refine ⟨⟨k + 1, HLT.out, by have := HLT.out; have := HSZ.out; rw [show wrap64 ((k : Int) + 1) = ((k + 1 : Nat) : Int) from by unfold wrap64; omega], ?_, below_mr HM.out hM1 (by have := HN.out; omega)⟩, by have := HLT.out; have := HSZ.out; rw [show wrap64 ((k : Int) + 1) = (k : Int) + 1 from by unfold wrap64; omega]; show s.size - ((k : Int) + 1).toNat < s.size - (k : Int).toNat; omega⟩
      have hk2 : k < (sb s).length := by rw [sb_len]; exact HLT.out
      rw [show (sb s).take (k + 1) = (sb s).take k ++ [g8 (sb s) k] from by rw [List.take_add_one]; simp [g8, hk2]]
      have : pthr ((sb s).take k ++ [g8 (sb s) k]) (sb t) = pthr ((sb s).take k) (sb t) ++ [c] := by
        unfold pthr
        rw [List.map_append, List.map_cons, List.map_nil, ED.out, EC.out]
      rw [this]
      exact hB1
    · have hik : ¬ (k : Int) < (s.size : Int) := by omega
      have HB2 := Lib.hid (show Bd wr N N (pthr (sb s) (sb t)) from by have := HB.out; rwa [List.take_of_length_le (by rw [sb_len]; omega)] at this)
      go_wp2_with (go_at_call 67; refine (String_any N N _ wr HB2.out (by have := HM.out.size; have := HN.out; omega)).mono ?_; rintro e w1 ⟨rfl, hM1⟩)
      go_ret2
      exact ⟨rfl, by rw [HN.out]; exact below_mr HM.out hM1 (by have := HN.out; omega)⟩
end Go.Proofs.YtbbfjlnkhenbiaaDoor
set_option linter.unusedVariables false
set_option linter.unusedSimpArgs false
namespace Go.Proofs.YtbbfjlnkhenbiaaDoor
open Go Go.RowKit Lk
theorem bv_hx10 (n : Nat) (h : n < 10) : bv (hx n) = 48 + (n : Int) := by
  have : ∀ n : Fin 10, bv (hx n.val) = 48 + (n.val : Int) := by decide +kernel
  exact this ⟨n, h⟩
set_option maxHeartbeats 1600000 in
set_option maxRecDepth 100000 in
theorem Mod_size (s t : ByteArray) (back : Bool) (w : World) (ht : s.size ≠ t.size) : Calls Tryd.prog 46 #[.string s, .string t, .bool back] w fun e w' => e = .returned (.tuple #[.string ByteArray.empty, .iface 68 (.int .i64 2)]) ∧ w' = w := by
  have i1 : ((s.size : Int) != (t.size : Int)) = true := by simp; omega
  clear ht
  go_enter Tryd.func46, Tryd.ntmps46
  go_wp2
  go_ret2
  exact ⟨rfl, rfl⟩
set_option maxHeartbeats 1600000 in
set_option maxRecDepth 100000 in
theorem Mod_bad (s t : ByteArray) (back : Bool) (k : Nat) (w : World) (hs : s.size ≤ 1000) (ht : s.size = t.size) (hk : pf 10 (sb s) = (k : Int)) : Calls Tryd.prog 46 #[.string s, .string t, .bool back] w fun e w' => ∃ v, e = .returned (.tuple #[.string ByteArray.empty, v]) ∧ ErV w' [(k : Int)] 16 v ∧ Below w.heap.size w w' := by
  have hV : VB (w.alloc (.cells #[.string s, .string t] 9)) w.heap.size 9 [.string s, .string t] := heap_alloc_new w _
  have hM : Below w.heap.size w (w.alloc (.cells #[.string s, .string t] 9)) := below_alloc (Below.refl _ _) (Nat.le_refl _) _
  have HF := Lib.hid (fun w => first_any s D10 w (by omega))
  rw [dfirst10, hk] at HF
  have HW := Lib.hid (fun w => wrong_any (k : Int) w)
  have i1 : ((s.size : Int) != (t.size : Int)) = false := by rw [ht]; simp
  have i2 : (k : Int) ≥ 0 := by omega
  have HV := Lib.hid hV
  have HM := Lib.hid hM
  clear ht hk hs hV hM
  go_enter Tryd.func46, Tryd.ntmps46
  go_wp2
  refine wp_loop_rounds 3 ?_
  have cs := HV.out.cell 0 _ rfl
  rw [rounds_succ]
  go_wp2_with (first
    | (go_at_call 63; rw [D16_10]; refine (HF.out _).mono ?_; rintro e w2 ⟨rfl, rfl⟩)
    | (go_at_call 64; refine (HW.out _).mono ?_; rintro e w3 ⟨v, rfl, hE, hL⟩))
  go_ret2
  exact ⟨_, rfl, hE, below_more HM.out hL HM.out.size⟩
set_option maxHeartbeats 3200000 in
set_option maxRecDepth 100000 in
theorem Mod_ok (s t : ByteArray) (back : Bool) (w : World) (hs : s.size ≤ 1000) (ht : s.size = t.size) (h1 : pf 10 (sb s) = -1) (h2 : pf 10 (sb t) = -1) : Calls Tryd.prog 46 #[.string s, .string t, .bool back] w fun e w' => e = .returned (.tuple #[.string (ofL (pmod (sb s) (sb t) back)), .nilIface]) ∧ Below w.heap.size w w' := by
  obtain ⟨N, hN⟩ : ∃ N, w.heap.size = N := ⟨_, rfl⟩
  have HN := Lib.hid hN
  have hV : VB (w.alloc (.cells #[.string s, .string t] 9)) w.heap.size 9 [.string s, .string t] := heap_alloc_new w _
  have hM : Below w.heap.size w (w.alloc (.cells #[.string s, .string t] 9)) := below_alloc (Below.refl _ _) (Nat.le_refl _) _
  have hz : (w.alloc (.cells #[.string s, .string t] 9)).heap.size = N + 1 := by show (w.heap.push _).size = _; simp; omega
  have HF := Lib.hid (fun w => first_any s D10 w (by omega))
  have HG := Lib.hid (fun w => first_any t D10 w (by omega))
  rw [dfirst10, h1] at HF
  rw [dfirst10, h2] at HG
  have HD1 := Lib.hid (pf_neg (show pf 10 (sb s) < 0 by omega)).2
  have HD2 := Lib.hid (pf_neg (show pf 10 (sb t) < 0 by omega)).2
  have i1 : ((s.size : Int) != (t.size : Int)) = false := by rw [ht]; simp
  have HT := Lib.hid ht
  have HSZ := Lib.hid hs
  rw [hN] at hV hM
  have HV := Lib.hid hV
  have HM := Lib.hid hM
  have HZ := Lib.hid hz
  clear ht h1 h2 hs hV hM hN hz
  go_enter Tryd.func46, Tryd.ntmps46
  go_wp2
  rw [HN.out]
  generalize w.alloc (.cells #[.string s, .string t] 9) = w1 at HV HM HZ ⊢
  refine wp_loop_rounds 3 ?_
  have cs := HV.out.cell 0 _ rfl
  rw [rounds_succ]
  go_wp2_with (go_at_call 63; rw [D16_10]; refine (HF.out _).mono ?_; rintro e w2 ⟨rfl, rfl⟩)
  have cs := HV.out.cell 1 _ rfl
  rw [rounds_succ]
  go_wp2_with (go_at_call 63; rw [D16_10]; refine (HG.out _).mono ?_; rintro e w2 ⟨rfl, rfl⟩)
  rw [rounds_succ]
  go_wp2
  have hB0 := Bd_new w2 (N + 1) (by have := HZ.out; omega)
  have hM1 : Below N w (w2.alloc (.cells #[.pointer none, .slice none 0 0] 126)) := below_alloc HM.out (by have := HZ.out; omega) _
  rw [HZ.out] at hB0 ⊢
  have HB0 := Lib.hid hB0
  have HM1 := Lib.hid hM1
  clear hB0 hM1 cs
  go_loopw [39] (fun i wr => ∃ k : Nat, k ≤ s.size ∧ i = .int .i64 k ∧ Bd wr (N + 1) (N + 1) (modTo (sb s) (sb t) back k) ∧ Below N w wr) (fun i _ => s.size - (intOf i).toNat)
  case atStart => exact ⟨0, by omega, rfl, HB0.out, HM1.out⟩
  case round =>
    obtain ⟨k, hk, rfl, hB, hM⟩ := hrel
    have HB := Lib.hid hB
    have HM := Lib.hid hM
    clear hB hM
    by_cases hlt : k < s.size
    · have hik : (k : Int) < (s.size : Int) := by omega
      have HLT := Lib.hid hlt
      have hlt2 : k < t.size := by have := HT.out; omega
      have hik2 : (k : Int) < (t.size : Int) := by omega
      have hX := dv10 _ (HD1.out k (by rw [sb_len]; exact hlt))
      have hY := dv10 _ (HD2.out k (by rw [sb_len]; exact hlt2))
      obtain ⟨p, ep⟩ : ∃ p, dv (g8 (sb s) k) = p := ⟨_, rfl⟩
      obtain ⟨q, eq⟩ : ∃ q, dv (g8 (sb t) k) = q := ⟨_, rfl⟩
      rw [ep] at hX
      rw [eq] at hY
      have EP := Lib.hid ep
      have EQ := Lib.hid eq
      have p9 : p < 10 := by rw [← ep]; exact HD1.out k (by rw [sb_len]; exact hlt)
      have q9 : q < 10 := by rw [← eq]; exact HD2.out k (by rw [sb_len]; exact hlt2)
      have hs1 : (((s[k]'hlt).toNat : Nat) : Int) = 48 + (p : Int) := by rw [sget_bv s k hlt]; unfold bv; omega
      have ht1 : (((t[k]'hlt2).toNat : Nat) : Int) = 48 + (q : Int) := by rw [sget_bv t k hlt2]; unfold bv; omega
      clear hX hY ep eq
      have HPL := Lib.hid (show (modTo (sb s) (sb t) back k).length ≤ 3000 from by rw [modTo_len]; have := HSZ.out; omega)
      have HBq := Lib.hid (fun nq => show Bd (wr.drewN nq) (N + 1) (N + 1) (modTo (sb s) (sb t) back k) from HB.out.under (Drawn.below0 ⟨nq, rfl⟩))
      cases back
      · have hc : (48 + (48 + (p : Int) - 48 + (48 + (q : Int) - 48)) % 10 : Int) = bv (padd (g8 (sb s) k) (g8 (sb t) k) false) := by
          unfold padd
          rw [EP.out, EQ.out]
          rw [bv_hx10 _ (by simp; omega)]
          simp
          omega
        obtain ⟨c, ec⟩ : ∃ c, padd (g8 (sb s) k) (g8 (sb t) k) false = c := ⟨_, rfl⟩
        rw [ec] at hc
        have EC := Lib.hid ec
        have HC := Lib.hid hc
        clear ec hc
        go_wp2
        go_quiet (fail)
        go_wp2_with (go_at_call 66; rw [HC.out]; refine (WriteByte_any (N + 1) (N + 1) (modTo (sb s) (sb t) false k) c _ (HBq.out nq) (by have := HPL.out; omega) (by have := HB.out.lt; show N + 1 ≤ wr.heap.size; omega)).mono ?_; rintro e w4 ⟨rfl, hB1, hM1⟩)
        refine ⟨⟨k + 1, HLT.out, by have := HLT.out; have := HSZ.out; rw [show wrap64 ((k : Int) + 1) = ((k + 1 : Nat) : Int) from by unfold wrap64; omega], ?_, ?_⟩, by have := HLT.out; have := HSZ.out; rw [show wrap64 ((k : Int) + 1) = (k : Int) + 1 from by unfold wrap64; omega]; show s.size - ((k : Int) + 1).toNat < s.size - (k : Int).toNat; omega⟩
        · rw [modTo_succ, EC.out]; exact hB1
        · exact below_mr (below_mr HM.out (Drawn.below0 ⟨nq, rfl⟩) (by have := HB.out.lt; omega)) hM1 (by omega)
      · have hc : (48 + (48 + (p : Int) - 48 + (10 - (48 + (q : Int) - 48))) % 10 : Int) = bv (padd (g8 (sb s) k) (g8 (sb t) k) true) := by
          unfold padd
          rw [EP.out, EQ.out]
          rw [bv_hx10 _ (by simp; omega)]
          simp
          omega
        obtain ⟨c, ec⟩ : ∃ c, padd (g8 (sb s) k) (g8 (sb t) k) true = c := ⟨_, rfl⟩
        rw [ec] at hc
        have EC := Lib.hid ec
        have HC := Lib.hid hc
        clear ec hc
        go_wp2
        go_quiet (fail)
        go_wp2_with (go_at_call 66; rw [HC.out]; refine (WriteByte_any (N + 1) (N + 1) (modTo (sb s) (sb t) true k) c _ (HBq.out nq) (by have := HPL.out; omega) (by have := HB.out.lt; show N + 1 ≤ wr.heap.size; omega)).mono ?_; rintro e w4 ⟨rfl, hB1, hM1⟩)
        refine ⟨⟨k + 1, HLT.out, by have := HLT.out; have := HSZ.out; rw [show wrap64 ((k : Int) + 1) = ((k + 1 : Nat) : Int) from by unfold wrap64; omega], ?_, ?_⟩, by have := HLT.out; have := HSZ.out; rw [show wrap64 ((k : Int) + 1) = (k : Int) + 1 from by unfold wrap64; omega]; show s.size - ((k : Int) + 1).toNat < s.size - (k : Int).toNat; omega⟩
        · rw [modTo_succ, EC.out]; exact hB1
        · exact below_mr (below_mr HM.out (Drawn.below0 ⟨nq, rfl⟩) (by have := HB.out.lt; omega)) hM1 (by omega)
    · have hik : ¬ (k : Int) < (s.size : Int) := by omega
      have HB2 := Lib.hid (show Bd wr (N + 1) (N + 1) (pmod (sb s) (sb t) back) from by
        have := HB.out
        rw [show k = s.size by omega] at this
        have e : modTo (sb s) (sb t) back s.size = pmod (sb s) (sb t) back := by unfold modTo pmod; rw [sb_len]
        rwa [e] at this)
      go_wp2_with (go_at_call 67; refine (String_any (N + 1) (N + 1) _ wr HB2.out (by have := HB2.out.lt; omega)).mono ?_; rintro e w4 ⟨rfl, hM1⟩)
      go_ret2
      exact ⟨rfl, by rw [HN.out]; exact below_mr HM.out hM1 (by omega)⟩
end Go.Proofs.YtbbfjlnkhenbiaaDoor
set_option linter.unusedVariables false
set_option linter.unusedSimpArgs false
namespace Go.Proofs.YtbbfjlnkhenbiaaDoor
open Go Go.RowKit Lk
theorem sget_bv' (s : ByteArray) (k : Nat) (h : k < s.size) : (((s[k]'h).toNat : Nat) : Int) = bv (g8 (sb s) k) := by rw [sget s k h]; rfl
theorem exec_index {P : Program} {t : TypeId} (hu : P.underlying t = some .string) (s : ByteArray) (n : Nat) (hn : n < s.size) (o : Oper) (a : Act) (x y : Operand) (k : IntKind) (ho : o.op = .index t x y) (hx : a.eval x = .string s) (hy : a.eval y = .int k (n : Int)) (w : World) :
    (execOp a.eval o).run P w = .ok (.value (.int .u8 (bv (g8 (sb s) n)))) w := by
  have h := run_index_string (P := P) w t s k (n : Int) hu
  rw [dif_pos ⟨by omega, by omega⟩] at h
  simp only [Int.toNat_natCast] at h
  rw [sget_bv' s n hn] at h
  unfold execOp
  simp only [ho, hx, hy, Sem.run_bind, h, Result.andThen_ok]
  rfl
theorem below_own {w w1 w2 : World} {B : Nat} {v : Value} {l : List UInt8} (h : Below B w w1) (hB : B ≤ w1.heap.size) (hO : Own w1 B v l) (hG : w1.grownBy w2 v.ownBlock) : Below B w w2 :=
  ⟨hG.os.trans h.os, hG.tape.trans h.tape, hG.output.trans h.output, Nat.le_trans h.size hG.size, fun i hi => by
    rw [hG.block i (by omega) (fun e => by have := hO.lt i e.symm; omega)]; exact h.block i hi⟩
theorem or16 (p q : Nat) (hp : p < 16) (hq : q < 16) : Go.bits .or .i64 ((16 * p : Nat) : Int) (q : Int) = ((16 * p + q : Nat) : Int) := by
  have : ∀ p q : Fin 16, Go.bits .or .i64 ((16 * p.val : Nat) : Int) (q.val : Int) = ((16 * p.val + q.val : Nat) : Int) := by decide +kernel
  exact this ⟨p, hp⟩ ⟨q, hq⟩
set_option maxHeartbeats 1600000 in
set_option maxRecDepth 100000 in
theorem Unhex_bad (s : ByteArray) (k : Nat) (w : World) (hs : s.size ≤ 1000) (hk : pf 16 (sb s) = (k : Int)) : Calls Tryd.prog 41 #[.string s] w fun e w' => ∃ v, e = .returned (.tuple #[.slice none 0 0, v]) ∧ ErV w' [(k : Int)] 16 v ∧ Below w.heap.size w w' := by
  have HF := Lib.hid (first_any s D16 w (by omega))
  rw [dfirst16, hk] at HF
  have HW := Lib.hid (wrong_any (k : Int) w)
  have i2 : (k : Int) ≥ 0 := by omega
  clear hs hk
  go_enter Tryd.func41, Tryd.ntmps41
  go_wp2_with (first
    | (go_at_call 63; refine HF.out.mono ?_; rintro e w ⟨rfl, rfl⟩)
    | (go_at_call 64; refine HW.out.mono ?_; rintro e w1 ⟨v, rfl, hE, hL⟩))
  go_ret2
  exact ⟨_, rfl, hE, hL⟩
set_option maxHeartbeats 3200000 in
set_option maxRecDepth 100000 in
theorem Unhex_ok (s : ByteArray) (m : Nat) (w : World) (hm : s.size = 2 * m) (hs : m ≤ 1000) (hk : pf 16 (sb s) = -1) : Calls Tryd.prog 41 #[.string s] w fun e w' => ∃ v, e = .returned (.tuple #[v, .nilIface]) ∧ Own w' w.heap.size v (unTo (sb s) m) ∧ Below w.heap.size w w' := by
  obtain ⟨N, hN⟩ : ∃ N, w.heap.size = N := ⟨_, rfl⟩
  have HN := Lib.hid hN
  have HF := Lib.hid (first_any s D16 w (by omega))
  rw [dfirst16, hk] at HF
  have hd2 : ∀ j, j < s.size → dv (g8 (sb s) j) < 16 := fun j hj => (pf_neg (show pf 16 (sb s) < 0 by omega)).2 j (by rw [sb_len]; exact hj)
  have HD := Lib.hid hd2
  have hx : ∀ (k : Nat) (h : k < s.size), Lib.indexByte D16.data.toList (((s[k]'h).toNat : Int)).toNat.toUInt8 = (dv (g8 (sb s) k) : Int) := fun k h => by
    rw [sget s k h]
    have e : (((g8 (sb s) k).toNat : Int)).toNat.toUInt8 = g8 (sb s) k := by simp
    rw [e, index16, if_neg (by have := hd2 k h; omega)]
  have HX := Lib.hid hx
  have HS := Lib.hid hs
  have HM := Lib.hid hm
  have i1 : (((s.size : Int).tmod 2 != 0) : Bool) = false := by rw [hm]; simp
  have i3 : (((s.size : Int) % 2 != 0) : Bool) = false := by rw [hm]; simp
  clear hs hk hd2 hx hN hm
  go_enter Tryd.func41, Tryd.ntmps41
  go_wp2_with (first
    | (go_at_call 63; refine HF.out.mono ?_; rintro e w ⟨rfl, rfl⟩))
  go_loopw [5, 6] (fun o i wr => ∃ (k : Nat) (vo : Value), k ≤ m ∧ i = .int .i64 ((2 * k : Nat) : Int) ∧ vo = o ∧ Own wr N vo (unTo (sb s) k) ∧ Below N w wr) (fun _ i _ => 2 * m - (intOf i).toNat)
  case atStart => exact ⟨0, _, by omega, rfl, rfl, own_nil _ _, Below.refl _ _⟩
  case round =>
    obtain ⟨k, o, hk, rfl, ho0, hO, hM1⟩ := hrel
    subst ho0
    have HO := Lib.hid hO
    have HM1 := Lib.hid hM1
    clear hO hM1
    by_cases hlt : k < m
    · have hl1 : 2 * k < s.size := by have := HM.out; omega
      have hl2 : 2 * k + 1 < s.size := by have := HM.out; omega
      have hi1 : ((2 * k : Nat) : Int) < (s.size : Int) := by omega
      obtain ⟨j, ej⟩ : ∃ j, 2 * k = j := ⟨_, rfl⟩
      rw [ej] at hl1 hl2 hi1 ⊢
      obtain ⟨j1, ej1⟩ : ∃ j1, j + 1 = j1 := ⟨_, rfl⟩
      rw [ej1] at hl2
      have hi2 : (j1 : Int) < (s.size : Int) := by omega
      have hw1 : wrap64 ((j : Int) + 1) = (j1 : Int) := by have := HS.out; unfold wrap64; omega
      have hw2 : IntKind.i64.wrap ((j : Int) + 1) = (j1 : Int) := (IntWalk.i64_in _ (by have := HS.out; omega)).trans (by omega)
      go_wp2
      obtain ⟨p, ep⟩ : ∃ p, dv (g8 (sb s) j) = p := ⟨_, rfl⟩
      obtain ⟨q, eq⟩ : ∃ q, dv (g8 (sb s) j1) = q := ⟨_, rfl⟩
      have hp := HD.out j hl1
      have hq := HD.out j1 hl2
      rw [ep] at hp
      rw [eq] at hq
      have IX1 := Lib.hid (fun w => (shl_strings_IndexByte D16 (((s[j]'hl1).toNat : Nat) : Int) w).mono fun e w' he => (show e = .returned (.int .i64 (p : Int)) ∧ w' = w from by rw [HX.out j hl1, ep] at he; exact he))
      have IX2 := Lib.hid (fun w => (shl_strings_IndexByte D16 (((s[j1]'hl2).toNat : Nat) : Int) w).mono fun e w' he => (show e = .returned (.int .i64 (q : Int)) ∧ w' = w from by rw [HX.out j1 hl2, eq] at he; exact he))
      obtain ⟨y, ey⟩ : ∃ y, UInt8.ofNat (16 * p + q) = y := ⟨_, rfl⟩
      have EY := Lib.hid (show unTo (sb s) (k + 1) = unTo (sb s) k ++ [y] from by rw [unTo_succ, ej, ej1, ep, eq, ey])
      obtain ⟨P, eP⟩ : ∃ P, 16 * p = P := ⟨_, rfl⟩
      obtain ⟨R, eR⟩ : ∃ R, P + q = R := ⟨_, rfl⟩
      have hb1 : IntKind.i64.wrap ((p : Int) * 16) = (P : Int) := (IntWalk.i64_in _ (by omega)).trans (by omega)
      have hb2 : Go.bits .or .i64 (P : Int) (q : Int) = (R : Int) := by rw [← eR, ← eP]; exact or16 p q hp hq
      have hb3 : IntKind.u8.wrap (R : Int) = bv y := by rw [IntKind.wrap_u8, ← ey, ← eR, ← eP]; unfold bv; rw [UInt8.toNat_ofNat', Nat.mod_eq_of_lt (by omega)]; omega
      have HJ := Lib.hid hlt
      have HEJ := Lib.hid ej
      clear ep eq hp hq ey eP eR ej ej1 hlt
      have hS : True := trivial
      have X1 := exec_index (P := Tryd.prog) (t := 9) (by kernel_rfl) s j hl1
      have X2 := exec_index (P := Tryd.prog) (t := 9) (by kernel_rfl) s j1 hl2
      obtain ⟨a1, ea1⟩ : ∃ a, g8 (sb s) j = a := ⟨_, rfl⟩
      obtain ⟨a2, ea2⟩ : ∃ a, g8 (sb s) j1 = a := ⟨_, rfl⟩
      rw [sget_bv' s j hl1, ea1] at IX1
      rw [sget_bv' s j1 hl2, ea2] at IX2
      rw [ea1] at X1
      rw [ea2] at X2
      clear ea1 ea2
      refine wp_region_held (S := fun _ => True) (by kernel_rfl) ?_
      show wpAnyH _ _ _ _ _ 16 _ _ wr.drew
      refine tkw 0 24 rfl rfl (by kernel_rfl) o idq (fun _ => by kernel_rfl) hS ?_
      refine tkw 1 25 rfl rfl (by kernel_rfl) (.string s) idq (fun _ => by kernel_rfl) hS ?_
      refine tkw 2 26 rfl rfl (by kernel_rfl) (.int .i64 j) idq (fun _ => by kernel_rfl) hS ?_
      refine tkw 3 27 rfl rfl (by kernel_rfl) (.int .u8 (bv a1)) idq (fun w => X1 _ _ _ _ .i64 rfl (by kernel_rfl) (by kernel_rfl) w) hS ?_
      refine tkw 6 30 rfl rfl (by kernel_rfl) (.string s) idq (fun _ => by kernel_rfl) hS ?_
      refine tkw 7 31 rfl rfl (by kernel_rfl) (.int .i64 j) idq (fun _ => by kernel_rfl) hS ?_
      refine tkw 8 32 rfl rfl (by kernel_rfl) (.int .i64 j1) idq (fun _ => by rw [← hw2]; kernel_rfl) hS ?_
      refine tkw 9 33 rfl rfl (by kernel_rfl) (.int .u8 (bv a2)) idq (fun w => X2 _ _ _ _ .i64 rfl (by kernel_rfl) (by kernel_rfl) w) hS ?_
      refine anyH_one 4 (by kernel_rfl) ?_
      refine opH_enter (some 28) rfl rfl (by kernel_rfl) 65 #[.string D16, .int .u8 (bv a1)] (fun v wq => v = .int .i64 p ∧ wq = wr.drew) (by kernel_rfl) ((IX1.out wr.drew).mono fun e wq ⟨q1, q2⟩ => ⟨_, q1, rfl, q2⟩) ?_
      rintro _ _ ⟨rfl, rfl⟩
      refine ⟨hS, ?_⟩
      refine tkw 5 29 rfl rfl (by kernel_rfl) (.int .i64 P) idq (fun _ => by rw [← hb1]; kernel_rfl) hS ?_
      refine anyH_one 10 (by kernel_rfl) ?_
      refine opH_enter (some 34) rfl rfl (by kernel_rfl) 65 #[.string D16, .int .u8 (bv a2)] (fun v wq => v = .int .i64 q ∧ wq = wr.drew) (by kernel_rfl) ((IX2.out wr.drew).mono fun e wq ⟨q1, q2⟩ => ⟨_, q1, rfl, q2⟩) ?_
      rintro _ _ ⟨rfl, rfl⟩
      refine ⟨hS, ?_⟩
      refine tkw 11 35 rfl rfl (by kernel_rfl) (.int .i64 R) idq (fun _ => by rw [← hb2]; kernel_rfl) hS ?_
      refine tkw 12 36 rfl rfl (by kernel_rfl) (.int .u8 (bv y)) idq (fun _ => by rw [← hb3]; kernel_rfl) hS ?_
      have hz : N ≤ wr.heap.size := by have := HM1.out.size; have := HN.out; omega
      refine anyH_one 13 (by kernel_rfl) ?_
      refine ⟨wpOp_run rfl (by kernel_rfl) (.slice (some ⟨wr.heap.size, 0, none⟩) 1 1) (wr.drew.alloc (.cells #[.int .u8 (bv y)] 5)) (by kernel_rfl) ⟨hS, ?_⟩⟩
      have hsl : SlB (wr.drew.alloc (.cells #[.int .u8 (bv y)] 5)) (.slice (some ⟨wr.heap.size, 0, none⟩) 1 1) [y] := one_slB wr.drew y
      have hw3 : Own (wr.drew.alloc (.cells #[.int .u8 (bv y)] 5)) N o (unTo (sb s) k) := HO.out.drew.alloc _
      have hBw : Below N w (wr.drew.alloc (.cells #[.int .u8 (bv y)] 5)) := below_alloc HM1.out.drew hz _
      have hzw : N ≤ (wr.drew.alloc (.cells #[.int .u8 (bv y)] 5)).heap.size := hBw.size |> fun h => by have := HN.out; omega
      generalize wr.drew.alloc (.cells #[.int .u8 (bv y)] 5) = w3 at hsl hw3 hBw hzw ⊢
      refine anyH_one 14 (by kernel_rfl) ?_
      refine ⟨wpOp_append rfl (by kernel_rfl) hu_sl hu_u8 _ _ rfl N o (unTo (sb s) k) (by kernel_rfl) hw3 ⟨wr.heap.size, 0, none⟩ 1 1 [y] (by kernel_rfl) hsl (by rw [unTo_len]; have := HJ.out; have := HS.out; simp; omega) hzw ?_⟩
      intro v4 w4 hO4 hG4
      refine ⟨hS, ?_⟩
      refine tkw 15 5 rfl rfl (by kernel_rfl) v4 idq (fun _ => by kernel_rfl) hS ?_
      refine wpAnyH_done (by kernel_rfl) ?_ _
      simp only [Act.put, List.setIfInBounds_toArray, List.set_cons_succ, List.set_cons_zero]
      have hB4 := below_own hBw hzw hw3 hG4
      clear hw3 hsl hG4 hBw hzw hb1 hb2 hb3 X1 X2
      go_wp2
      go_roundw
      case rel =>
        exact ⟨k + 1, _, HJ.out, by have := HEJ.out; have := HJ.out; have := HS.out; rw [show wrap64 ((j : Int) + 2) = ((2 * (k + 1) : Nat) : Int) from by unfold wrap64; omega], rfl, by rw [EY.out]; exact hO4, hB4⟩
      case measure =>
        have := HEJ.out; have := HJ.out; have := HS.out
        rw [show wrap64 ((j : Int) + 2) = (j : Int) + 2 from by unfold wrap64; omega]
        show 2 * m - ((j : Int) + 2).toNat < 2 * m - ((j : Int)).toNat
        omega
    · have hi1 : ¬ ((2 * k : Nat) : Int) < (s.size : Int) := by have := HM.out; omega
      have hkm : k = m := by omega
      have HE := Lib.hid hkm
      obtain ⟨j, ej⟩ : ∃ j, 2 * k = j := ⟨_, rfl⟩
      rw [ej] at hi1 ⊢
      clear hkm ej
      go_wp2
      go_ret2
      refine ⟨_, rfl, ?_, ?_⟩
      · rw [HN.out, ← HE.out]; exact HO.out
      · rw [HN.out]; exact HM1.out
end Go.Proofs.YtbbfjlnkhenbiaaDoor
set_option linter.unusedVariables false
set_option linter.unusedSimpArgs false
namespace Go.Proofs.YtbbfjlnkhenbiaaDoor
open Go Go.RowKit Lk
theorem cv_bytes (w : World) (s : ByteArray) : (convert 9 22 (.string s)).run Tryd.prog w = .ok (.slice (some ⟨w.heap.size, 0, none⟩) s.size (grownCap w s.size 0 5)) (Lib.bytesWorld w 5 s) :=
  Lib.run_convert_string_bytes w 9 22 5 s (u := .string) (by kernel_rfl) (by kernel_rfl) (by kernel_rfl)
theorem cv_world (w : World) (s : ByteArray) (hs : s.size ≤ 1000) : SlB (Lib.bytesWorld w 5 s) (.slice (some ⟨w.heap.size, 0, none⟩) s.size (grownCap w s.size 0 5)) (sb s) ∧ Below w.heap.size w (Lib.bytesWorld w 5 s) := by
  refine ⟨⟨_, grownCap w s.size 0 5, by rw [sb_len], fun h => (by cases h), by rw [sb_len]; exact grownCap_ge _ _ _ _, grownCap_le_maxLen _ _ _ _ (by unfold maxLen; omega), fun _ => ⟨_, _, rfl, fun k hk => ?_⟩⟩, rfl, rfl, rfl, by rw [Lib.bytesWorld_size]; omega, fun i hi => Lib.bytesWorld_at_old w _ s i (by omega)⟩
  rw [Nat.zero_add, Lib.bytesWorld_cell w 5 s k (by rw [← sb_len]; exact hk)]
  unfold g8 sb bv
  rfl
section
variable {ops : Array Oper} {rest : List Oper} {o : Oper} {a : Act} {w : World} {Q : Exit → Act → World → Prop}
theorem op_cvb (hw : Region.wanted o (yielded ops a.tmps) = true) (x : Operand) (ho : o.op = .convert 9 22 x) (s : ByteArray) (hx : a.eval x = .string s) (hs : s.size ≤ 1000)
    (h : ∀ v w1, SlB w1 v (sb s) → Below w.heap.size w w1 → (∀ k, v.ownBlock = some k → w.heap.size ≤ k) → wpList Tryd.prog ops Q rest (a.put o.dst v) w1) : wpList Tryd.prog ops Q (o :: rest) a w :=
  wpList_step fun K hK => by
    simp only [hw, if_true]
    unfold Oper.wp execOp
    simp only [ho, hx, Sem.run_bind, cv_bytes w s, Result.andThen_ok]
    have hb := cv_world w s hs
    exact hK _ _ (h _ _ hb.1 hb.2 (fun k hk => by have : w.heap.size = k := (by simpa [Value.ownBlock] using hk); omega))
end
end Go.Proofs.YtbbfjlnkhenbiaaDoor
set_option linter.unusedVariables false
set_option linter.unusedSimpArgs false
namespace Lk
/-- a natural PIN's digits -/
def pnatL (key : List UInt8) (data table : ByteArray) (m : Nat) : List UInt8 := (pthr (phex (pdo 2 key (unTo (sb data) 8) false)) (sb table)).take m
end Lk
namespace Go.Proofs.YtbbfjlnkhenbiaaDoor
open Go Go.RowKit Lk
set_option maxHeartbeats 1600000 in
set_option maxRecDepth 100000 in
theorem Natural_n (vk : Value) (key : List UInt8) (data table : ByteArray) (n : Int) (w : World) (hk : SlB w vk key) (hn : n < 4 ∨ 12 < n) :
    Calls Tryd.prog 24 #[vk, .string data, .string table, .int .i64 n] w fun e w' => e = .returned (.tuple #[.string ByteArray.empty, .iface 68 (.int .i64 1)]) ∧ w' = w := by
  obtain ⟨A, c, rfl, _⟩ := hk
  obtain ⟨L, eL⟩ : ∃ L, key.length = L := ⟨_, rfl⟩
  rw [eL]
  clear eL
  by_cases h4 : n < 4
  · clear hn
    go_enter Tryd.func24, Tryd.ntmps24
    go_wp2
    go_ret2
    exact ⟨rfl, rfl⟩
  · have h12 : n > 12 := by omega
    clear hn
    go_enter Tryd.func24, Tryd.ntmps24
    go_wp2
    go_ret2
    exact ⟨rfl, rfl⟩
set_option maxHeartbeats 1600000 in
set_option maxRecDepth 100000 in
theorem Natural_size (vk : Value) (key : List UInt8) (data table : ByteArray) (n : Int) (w : World) (hk : SlB w vk key) (h4 : ¬ n < 4) (h12 : ¬ 12 < n) (hs : (key.length ≠ 16 ∧ key.length ≠ 24) ∨ data.size ≠ 16) :
    Calls Tryd.prog 24 #[vk, .string data, .string table, .int .i64 n] w fun e w' => e = .returned (.tuple #[.string ByteArray.empty, .iface 68 (.int .i64 2)]) ∧ w' = w := by
  obtain ⟨A, c, rfl, _⟩ := hk
  obtain ⟨L, eL⟩ : ∃ L, key.length = L := ⟨_, rfl⟩
  rw [eL] at hs ⊢
  clear eL
  have h12' : ¬ n > 12 := by omega
  by_cases h16 : L = 16
  · subst h16
    have hd : ((data.size : Int) != 16) = true := by simp; omega
    clear hs
    go_enter Tryd.func24, Tryd.ntmps24
    go_wp2
    go_ret2
    exact ⟨rfl, rfl⟩
  by_cases h24 : L = 24
  · subst h24
    have hd : ((data.size : Int) != 16) = true := by simp; omega
    clear hs
    go_enter Tryd.func24, Tryd.ntmps24
    go_wp2
    go_ret2
    exact ⟨rfl, rfl⟩
  have i1 : ((L : Int) != 16) = true := by simp; omega
  have i2 : ((L : Int) != 24) = true := by simp; omega
  clear hs h16 h24
  go_enter Tryd.func24, Tryd.ntmps24
  go_wp2
  go_ret2
  exact ⟨rfl, rfl⟩
set_option maxHeartbeats 1600000 in
set_option maxRecDepth 100000 in
theorem Natural_data (vk : Value) (key : List UInt8) (data table : ByteArray) (n : Int) (k : Nat) (w : World) (hk : SlB w vk key) (h4 : ¬ n < 4) (h12 : ¬ 12 < n) (hL : key.length = 16 ∨ key.length = 24) (hs : data.size = 16) (hp : pf 16 (sb data) = (k : Int)) :
    Calls Tryd.prog 24 #[vk, .string data, .string table, .int .i64 n] w fun e w' => ∃ v, e = .returned (.tuple #[.string ByteArray.empty, v]) ∧ ErV w' [(k : Int)] 16 v ∧ Below w.heap.size w w' := by
  obtain ⟨A, c, rfl, _⟩ := hk
  have HU := Lib.hid (Unhex_bad data k w (by omega) hp)
  have hd : ((data.size : Int) != 16) = false := by rw [hs]; rfl
  have h12' : ¬ n > 12 := by omega
  clear hs hp
  rcases hL with hL | hL
  all_goals
    rw [hL]
    clear hL
    go_enter Tryd.func24, Tryd.ntmps24
    go_wp2_with (go_at_call 41; refine HU.out.mono ?_; rintro e w1 ⟨v, rfl, hE, hL⟩; obtain ⟨eT, ex, rfl⟩ := hE.form)
    go_ret2
    exact ⟨_, rfl, hE, hL⟩
set_option maxHeartbeats 3200000 in
set_option maxRecDepth 100000 in
theorem Natural_err (vk : Value) (key : List UInt8) (data table : ByteArray) (n : Int) (ats : List Int) (why : Int) (w : World) (hk : SlB w vk key) (h4 : ¬ n < 4) (h12 : ¬ 12 < n) (hL : key.length = 16 ∨ key.length = 24) (hs : data.size = 16) (hp : pf 16 (sb data) = -1)
    (HT : ∀ w1, Calls Tryd.prog 42 #[.string (ofL (phex (pdo 2 key (unTo (sb data) 8) false))), .string table] w1 fun e w' => ∃ v, e = .returned (.tuple #[.string ByteArray.empty, v]) ∧ ErV w' ats why v ∧ Below w1.heap.size w1 w') :
    Calls Tryd.prog 24 #[vk, .string data, .string table, .int .i64 n] w fun e w' => ∃ v, e = .returned (.tuple #[.string ByteArray.empty, v]) ∧ ErV w' ats why v ∧ Below w.heap.size w w' := by
  obtain ⟨N, hN⟩ : ∃ N, w.heap.size = N := ⟨_, rfl⟩
  have HN := Lib.hid hN
  have HU := Lib.hid (Unhex_ok data 8 w (by omega) (by omega) hp)
  have hf : pfits 2 key.length = true := by rcases hL with h | h <;> rw [h] <;> rfl
  have HW := Lib.hid (fun (w1 : World) (h : Below w.heap.size w w1) => New_any vk none 2 key w1 (.inr rfl) hf (hk.below h))
  have HD := Lib.hid (fun (q v : Value) (w1 : World) (h : Cip w1 w1.heap.size q 2 key) (hb : SlB w1 v (unTo (sb data) 8)) => Do_any q v w1.heap.size 2 key (unTo (sb data) 8) false w1 (.inr rfl) h (Nat.le_refl _) hf hb (unTo_len _ _))
  have HX := Lib.hid (fun (v : Value) (w1 : World) (hb : SlB w1 v (pdo 2 key (unTo (sb data) 8) false)) => Hex_any v _ w1 hb (by rw [pdo_len _ _ _ _ (.inr rfl)]; decide))
  have HTT := Lib.hid HT
  have HPL := Lib.hid (show (pdo 2 key (unTo (sb data) 8) false).length = 8 from by rw [pdo_len _ _ _ _ (.inr rfl)]; rfl)
  obtain ⟨A, c, rfl, _⟩ := hk
  have hd : ((data.size : Int) != 16) = false := by rw [hs]; rfl
  have h12' : ¬ n > 12 := by omega
  clear hs hp hN hf HT
  rcases hL with hL | hL
  all_goals
    rw [hL] at HW ⊢
    clear hL
    go_enter Tryd.func24, Tryd.ntmps24
    go_wp2_with (first
      | (go_at_call 41; refine HU.out.mono ?_; rintro e w1 ⟨v1, rfl, hO1, hL1⟩; have HO1 := Lib.hid hO1; obtain ⟨A1, c1, rfl, hc1⟩ := hO1.slB.formc (unTo_len _ _))
      | (go_at_call 12; refine (HW.out w1 hL1).mono ?_; rintro e w2 ⟨q2, rfl, hC2, hL2⟩; have hM2 := below_more hL1 hL2 hL1.size; have hO2 := HO1.out.under hL2)
      | (go_at_call 17; refine (HD.out _ _ w2 hC2 hO2.slB).mono ?_; rintro e w3 ⟨v3, rfl, hA3, hL3⟩; have hM3 := below_more hM2 hL3 hM2.size; have HS3 := Lib.hid (hA3.new.slB (by rw [HPL.out]; decide)); obtain ⟨A3, c3, rfl, hc3⟩ := HS3.out.formc HPL.out)
      | (go_at_call 43; refine (HX.out _ w3 HS3.out).mono ?_; rintro e w4 ⟨rfl, hL4⟩; have hM4 := below_more hM3 hL4 hM3.size)
      | (go_at_call 42; refine (HTT.out w4).mono ?_; rintro e w5 ⟨v5, rfl, hE5, hL5⟩; obtain ⟨eT, ex, rfl⟩ := hE5.form))
    go_ret2
    exact ⟨_, rfl, hE5, below_more hM4 hL5 hM4.size⟩
set_option maxHeartbeats 3200000 in
set_option maxRecDepth 100000 in
theorem Natural_ok (vk : Value) (key : List UInt8) (data table : ByteArray) (m : Nat) (w : World) (hk : SlB w vk key) (h4 : 4 ≤ m) (h12 : m ≤ 12) (hL : key.length = 16 ∨ key.length = 24) (hs : data.size = 16) (hp : pf 16 (sb data) = -1)
    (ht : table.size = 16) (hq : pf 10 (sb table) = -1) :
    Calls Tryd.prog 24 #[vk, .string data, .string table, .int .i64 m] w fun e w' => e = .returned (.tuple #[.string (ofL (pnatL key data table m)), .nilIface]) ∧ Below w.heap.size w w' := by
  obtain ⟨N, hN⟩ : ∃ N, w.heap.size = N := ⟨_, rfl⟩
  have HN := Lib.hid hN
  have HU := Lib.hid (Unhex_ok data 8 w (by omega) (by omega) hp)
  have hf : pfits 2 key.length = true := by rcases hL with h | h <;> rw [h] <;> rfl
  have HW := Lib.hid (fun (w1 : World) (h : Below w.heap.size w w1) => New_any vk none 2 key w1 (.inr rfl) hf (hk.below h))
  have HD := Lib.hid (fun (q v : Value) (w1 : World) (h : Cip w1 w1.heap.size q 2 key) (hb : SlB w1 v (unTo (sb data) 8)) => Do_any q v w1.heap.size 2 key (unTo (sb data) 8) false w1 (.inr rfl) h (Nat.le_refl _) hf hb (unTo_len _ _))
  have HX := Lib.hid (fun (v : Value) (w1 : World) (hb : SlB w1 v (pdo 2 key (unTo (sb data) 8) false)) => Hex_any v _ w1 hb (by rw [pdo_len _ _ _ _ (.inr rfl)]; decide))
  have HTT := Lib.hid (fun (w1 : World) => Through_ok (ofL (phex (pdo 2 key (unTo (sb data) 8) false))) table w1 (by rw [ofL_size, phex_len, pdo_len _ _ _ _ (.inr rfl)]; decide) (by rw [sb_ofL]; exact phex_dig _) ht hq)
  rw [sb_ofL] at HTT
  obtain ⟨S, eS⟩ : ∃ S, ofL (pthr (phex (pdo 2 key (unTo (sb data) 8) false)) (sb table)) = S := ⟨_, rfl⟩
  have hSz : S.size = 16 := by rw [← eS, ofL_size, pthr_len, phex_len, pdo_len _ _ _ _ (.inr rfl)]; rfl
  have HES := Lib.hid (show S.extract 0 m = ofL (pnatL key data table m) from by
    apply sb_inj
    rw [sb_extract, ← eS, sb_ofL, sb_ofL]
    rfl)
  rw [eS] at HTT
  have hms : m ≤ S.size := by omega
  have hmi : (m : Int) ≤ (S.size : Int) := by omega
  have HMM := Lib.hid h12
  have h4' : ¬ (m : Int) < 4 := by omega
  have HPL := Lib.hid (show (pdo 2 key (unTo (sb data) 8) false).length = 8 from by rw [pdo_len _ _ _ _ (.inr rfl)]; rfl)
  obtain ⟨A, c, rfl, _⟩ := hk
  have hd : ((data.size : Int) != 16) = false := by rw [hs]; rfl
  have h12' : ¬ (m : Int) > 12 := by omega
  clear hs hp hN hf ht hq eS h4 h12
  rcases hL with hL | hL
  all_goals
    rw [hL] at HW ⊢
    clear hL
    go_enter Tryd.func24, Tryd.ntmps24
    go_wp2_with (first
      | (go_at_call 41; refine HU.out.mono ?_; rintro e w1 ⟨v1, rfl, hO1, hL1⟩; have HO1 := Lib.hid hO1; obtain ⟨A1, c1, rfl, hc1⟩ := hO1.slB.formc (unTo_len _ _))
      | (go_at_call 12; refine (HW.out w1 hL1).mono ?_; rintro e w2 ⟨q2, rfl, hC2, hL2⟩; have hM2 := below_more hL1 hL2 hL1.size; have hO2 := HO1.out.under hL2)
      | (go_at_call 17; refine (HD.out _ _ w2 hC2 hO2.slB).mono ?_; rintro e w3 ⟨v3, rfl, hA3, hL3⟩; have hM3 := below_more hM2 hL3 hM2.size; have HS3 := Lib.hid (hA3.new.slB (by rw [HPL.out]; decide)); obtain ⟨A3, c3, rfl, hc3⟩ := HS3.out.formc HPL.out)
      | (go_at_call 43; refine (HX.out _ w3 HS3.out).mono ?_; rintro e w4 ⟨rfl, hL4⟩; have hM4 := below_more hM3 hL4 hM3.size)
      | (go_at_call 42; refine (HTT.out w4).mono ?_; rintro e w5 ⟨rfl, hL5⟩))
    go_ret2
    exact ⟨by rw [← HES.out]; rfl, below_more hM4 hL5 hM4.size⟩
theorem Natural_tsize (vk : Value) (key : List UInt8) (data table : ByteArray) (n : Int) (w : World) (hk : SlB w vk key) (h4 : ¬ n < 4) (h12 : ¬ 12 < n) (hL : key.length = 16 ∨ key.length = 24) (hs : data.size = 16) (hp : pf 16 (sb data) = -1) (ht : table.size ≠ 16) :
    Calls Tryd.prog 24 #[vk, .string data, .string table, .int .i64 n] w fun e w' => ∃ v, e = .returned (.tuple #[.string ByteArray.empty, v]) ∧ ErV w' [] 2 v ∧ Below w.heap.size w w' :=
  Natural_err vk key data table n [] 2 w hk h4 h12 hL hs hp fun w1 => (Through_size _ table w1 ht).mono fun e w' h => ⟨_, h.1, rfl, by rw [h.2]; exact Below.refl _ _⟩
theorem Natural_tbad (vk : Value) (key : List UInt8) (data table : ByteArray) (n : Int) (k : Nat) (w : World) (hk : SlB w vk key) (h4 : ¬ n < 4) (h12 : ¬ 12 < n) (hL : key.length = 16 ∨ key.length = 24) (hs : data.size = 16) (hp : pf 16 (sb data) = -1) (ht : table.size = 16) (hq : pf 10 (sb table) = (k : Int)) (hk16 : k < 16) :
    Calls Tryd.prog 24 #[vk, .string data, .string table, .int .i64 n] w fun e w' => ∃ v, e = .returned (.tuple #[.string ByteArray.empty, v]) ∧ ErV w' [16 + (k : Int)] 16 v ∧ Below w.heap.size w w' :=
  Natural_err vk key data table n [16 + (k : Int)] 16 w hk h4 h12 hL hs hp fun w1 => (Through_bad _ table k w1 ht hq hk16).mono fun e w' h => h
/-- the natural PIN, what is wrong, where -/
def pnat (key : List UInt8) (data table : ByteArray) (n : Int) : ByteArray × Int × Int :=
  if n < 4 ∨ 12 < n then (ByteArray.empty, 1, -1)
  else if (key.length ≠ 16 ∧ key.length ≠ 24) ∨ data.size ≠ 16 then (ByteArray.empty, 2, -1)
  else if 0 ≤ pf 16 (sb data) then (ByteArray.empty, 16, pf 16 (sb data))
  else if table.size ≠ 16 then (ByteArray.empty, 2, -1)
  else if 0 ≤ pf 10 (sb table) then (ByteArray.empty, 16, 16 + pf 10 (sb table))
  else (ofL (pnatL key data table n.toNat), 0, -1)
theorem Natural_any (vk : Value) (key : List UInt8) (data table : ByteArray) (n : Int) (w : World) (hk : SlB w vk key) :
    Calls Tryd.prog 24 #[vk, .string data, .string table, .int .i64 n] w fun e w' => ∃ v, e = .returned (.tuple #[.string (pnat key data table n).1, v]) ∧ ErOf w' v (pnat key data table n).2.1 (pnat key data table n).2.2 ∧ Below w.heap.size w w' := by
  unfold pnat
  by_cases h1 : n < 4 ∨ 12 < n
  · rw [if_pos h1]
    exact (Natural_n vk key data table n w hk h1).mono fun e w' h => ⟨_, h.1, erOf_no _ _ (by decide), by rw [h.2]; exact Below.refl _ _⟩
  rw [if_neg h1]
  have h4 : ¬ n < 4 := fun h => h1 (.inl h)
  have h12 : ¬ 12 < n := fun h => h1 (.inr h)
  by_cases h2 : (key.length ≠ 16 ∧ key.length ≠ 24) ∨ data.size ≠ 16
  · rw [if_pos h2]
    exact (Natural_size vk key data table n w hk h4 h12 h2).mono fun e w' h => ⟨_, h.1, erOf_no _ _ (by decide), by rw [h.2]; exact Below.refl _ _⟩
  rw [if_neg h2]
  have hL : key.length = 16 ∨ key.length = 24 := by omega
  have hs : data.size = 16 := by omega
  rcases pf_cases 16 (sb data) with ⟨h3, _⟩ | ⟨k, h3, hk3, _⟩
  · rw [h3, if_neg (by omega)]
    by_cases ht : table.size ≠ 16
    · rw [if_pos ht]
      exact (Natural_tsize vk key data table n w hk h4 h12 hL hs h3 ht).mono fun e w' ⟨v, h, hE, hb⟩ => ⟨v, h, .inr (.inl ⟨by show (2 : Int) ≠ 0; decide, rfl, hE⟩), hb⟩
    rw [if_neg ht]
    rcases pf_cases 10 (sb table) with ⟨h5, _⟩ | ⟨k, h5, hk5, _⟩
    · rw [h5, if_neg (by omega)]
      obtain ⟨m, rfl⟩ : ∃ m : Nat, n = (m : Int) := ⟨n.toNat, by omega⟩
      exact (Natural_ok vk key data table m w hk (by omega) (by omega) hL hs h3 (by omega) h5).mono fun e w' h => ⟨_, h.1, erOf_nil _, h.2⟩
    · rw [h5, if_pos (by omega)]
      exact (Natural_tbad vk key data table n k w hk h4 h12 hL hs h3 (by omega) h5 (by rw [sb_len] at hk5; omega)).mono fun e w' ⟨v, h, hE, hb⟩ => ⟨v, h, .inr (.inr ⟨by show (16 : Int) ≠ 0; decide, by show (0 : Int) ≤ 16 + (k : Int); omega, hE⟩), hb⟩
  · rw [h3, if_pos (by omega)]
    exact (Natural_data vk key data table n k w hk h4 h12 hL hs h3).mono fun e w' ⟨v, h, hE, hb⟩ => ⟨v, h, .inr (.inr ⟨by show (16 : Int) ≠ 0; decide, by show (0 : Int) ≤ (k : Int); omega, hE⟩), hb⟩
end Go.Proofs.YtbbfjlnkhenbiaaDoor
set_option linter.unusedVariables false
set_option linter.unusedSimpArgs false
namespace Lk
open Go Go.RowKit
theorem pf_of_all {b : Nat} {l : List UInt8} (h : ∀ c ∈ l, dv c < b) : pf b l = -1 := pf_none fun j hj => h _ (by unfold g8; simp [hj])
theorem all_of_pf {b : Nat} {l : List UInt8} (h : pf b l < 0) : ∀ c ∈ l, dv c < b := fun c hc => by
  obtain ⟨j, hj, rfl⟩ := List.mem_iff_getElem.1 hc
  have := (pf_neg h).2 j hj
  rwa [show g8 l j = l[j] from by unfold g8; simp [hj]] at this
theorem pthr_dig (l t : List UInt8) (hl : ∀ c ∈ l, dv c < t.length) (ht : ∀ c ∈ t, dv c < 10) : ∀ c ∈ pthr l t, dv c < 10 := by
  intro c hc
  obtain ⟨a, ha, rfl⟩ := List.mem_map.1 hc
  have h := hl a ha
  exact ht _ (by unfold g8; simp [h])
theorem pmod_dig (a b : List UInt8) (back : Bool) : ∀ c ∈ pmod a b back, dv c < 10 := by
  intro c hc
  obtain ⟨i, _, rfl⟩ := List.mem_map.1 hc
  exact padd_dig _ _ _
end Lk
namespace Go.Proofs.YtbbfjlnkhenbiaaDoor
open Go Go.RowKit Lk
theorem pnat_ok (key : List UInt8) (data table : ByteArray) (n : Int) (h : (pnat key data table n).2.1 = 0) :
    ∃ m : Nat, n = (m : Int) ∧ 4 ≤ m ∧ m ≤ 12 ∧ (key.length = 16 ∨ key.length = 24) ∧ data.size = 16 ∧ pf 16 (sb data) = -1 ∧ table.size = 16 ∧ pf 10 (sb table) = -1 ∧ pnat key data table n = (ofL (pnatL key data table m), 0, -1) := by
  unfold pnat at h ⊢
  split at h
  · exact absurd h (by show ¬ ((1 : Int) = 0); decide)
  rename_i h1
  split at h
  · exact absurd h (by show ¬ ((2 : Int) = 0); decide)
  rename_i h2
  split at h
  · exact absurd h (by show ¬ ((16 : Int) = 0); decide)
  rename_i h3
  split at h
  · exact absurd h (by show ¬ ((2 : Int) = 0); decide)
  rename_i h4
  split at h
  · exact absurd h (by show ¬ ((16 : Int) = 0); decide)
  rename_i h5
  rw [if_neg h1, if_neg h2, if_neg h3, if_neg h4, if_neg h5]
  refine ⟨n.toNat, by omega, by omega, by omega, by omega, by omega, (pf_neg (by omega)).1, by omega, (pf_neg (by omega)).1, rfl⟩
theorem pnatL_len (key : List UInt8) (data table : ByteArray) (m : Nat) (h : m ≤ 12) : (pnatL key data table m).length = m := by
  unfold pnatL
  rw [List.length_take, pthr_len, phex_len, pdo_len _ _ _ _ (.inr rfl)]
  simp [psize]; omega
theorem pnatL_dig (key : List UInt8) (data table : ByteArray) (m : Nat) (ht : table.size = 16) (hp : pf 10 (sb table) = -1) : pf 10 (pnatL key data table m) = -1 := by
  refine pf_of_all fun c hc => ?_
  refine pthr_dig _ (sb table) ?_ (all_of_pf (by omega)) c (List.mem_of_mem_take hc)
  intro c hc
  rw [sb_len, ht]
  exact phex_dig _ c hc
/-- a PIN's offset, what is wrong, where -/
def pof (key : List UInt8) (data table p : ByteArray) : ByteArray × Int × Int :=
  if (pwrong (sb p) 4 12).1 ≠ 0 then (ByteArray.empty, (pwrong (sb p) 4 12).1, (pwrong (sb p) 4 12).2)
  else if (pnat key data table p.size).2.1 ≠ 0 then (ByteArray.empty, (pnat key data table p.size).2.1, (pnat key data table p.size).2.2)
  else (ofL (pmod (sb p) (sb (pnat key data table p.size).1) true), 0, -1)
theorem pwrong_ok {l : List UInt8} {a b : Nat} (h : (pwrong l a b).1 = 0) : a ≤ l.length ∧ l.length ≤ b ∧ pf 10 l = -1 ∧ pwrong l a b = (0, -1) := by
  unfold pwrong at h ⊢
  split at h
  · exact absurd h (by show ¬ ((2 : Int) = 0); decide)
  rename_i h1
  split at h
  · exact absurd h (by show ¬ ((16 : Int) = 0); decide)
  rename_i h2
  rw [if_neg h1, if_neg h2]
  exact ⟨by omega, by omega, (pf_neg (by omega)).1, rfl⟩
set_option maxHeartbeats 1600000 in
set_option maxRecDepth 100000 in
theorem Of_bad (vk : Value) (key : List UInt8) (data table p : ByteArray) (w : World) (hk : SlB w vk key) (hp : p.size ≤ 1000) (hw : (pwrong (sb p) 4 12).1 ≠ 0) :
    Calls Tryd.prog 39 #[vk, .string data, .string table, .string p] w fun e w' => ∃ v, e = .returned (.tuple #[.string ByteArray.empty, v]) ∧ ErOf w' v (pwrong (sb p) 4 12).1 (pwrong (sb p) 4 12).2 ∧ Below w.heap.size w w' := by
  obtain ⟨A, c, rfl, _⟩ := hk
  have HR := Lib.hid (Right_any p w hp)
  obtain ⟨pr, epr⟩ : ∃ pr, pwrong (sb p) 4 12 = pr := ⟨_, rfl⟩
  rw [epr] at HR hw ⊢
  have HW := Lib.hid hw
  clear epr hp hw
  go_enter Tryd.func39, Tryd.ntmps39
  go_wp2_with (go_at_call 61; refine HR.out.mono ?_; rintro e w1 ⟨v, rfl, hE, hL⟩; obtain ⟨eT, ex, rfl⟩ := hE.form HW.out)
  go_ret2
  exact ⟨_, rfl, hE, hL⟩
set_option maxHeartbeats 1600000 in
set_option maxRecDepth 100000 in
theorem Of_nbad (vk : Value) (key : List UInt8) (data table p : ByteArray) (w : World) (hk : SlB w vk key) (hp : p.size ≤ 1000) (hw : pwrong (sb p) 4 12 = (0, -1)) (hn : (pnat key data table p.size).2.1 ≠ 0) :
    Calls Tryd.prog 39 #[vk, .string data, .string table, .string p] w fun e w' => ∃ v, e = .returned (.tuple #[.string ByteArray.empty, v]) ∧ ErOf w' v (pnat key data table p.size).2.1 (pnat key data table p.size).2.2 ∧ Below w.heap.size w w' := by
  have HR := Lib.hid (Right_any p w hp)
  rw [hw] at HR
  have HA := Lib.hid (fun w1 (h : Below w.heap.size w w1) => Natural_any vk key data table p.size w1 (hk.below h))
  obtain ⟨A, c, rfl, _⟩ := hk
  obtain ⟨pr, epr⟩ : ∃ pr, pnat key data table p.size = pr := ⟨_, rfl⟩
  rw [epr] at HA hn ⊢
  have HW := Lib.hid hn
  clear epr hp hw hn
  go_enter Tryd.func39, Tryd.ntmps39
  go_wp2_with (first
    | (go_at_call 61; refine HR.out.mono ?_; rintro e w1 ⟨v, rfl, hE, hL⟩; obtain rfl := hE.nil)
    | (go_at_call 24; refine (HA.out w1 hL).mono ?_; rintro e w2 ⟨v, rfl, hE2, hL2⟩; obtain ⟨eT, ex, rfl⟩ := hE2.form HW.out))
  go_ret2
  exact ⟨_, rfl, hE2, below_more hL hL2 hL.size⟩
set_option maxHeartbeats 1600000 in
set_option maxRecDepth 100000 in
theorem Of_ok (vk : Value) (key : List UInt8) (data table p : ByteArray) (w : World) (hk : SlB w vk key) (hp : p.size ≤ 1000) (hw : pwrong (sb p) 4 12 = (0, -1)) (hn : (pnat key data table p.size).2.1 = 0) :
    Calls Tryd.prog 39 #[vk, .string data, .string table, .string p] w fun e w' => e = .returned (.tuple #[.string (ofL (pmod (sb p) (sb (pnat key data table p.size).1) true)), .nilIface]) ∧ Below w.heap.size w w' := by
  have HR := Lib.hid (Right_any p w hp)
  rw [hw] at HR
  have HA := Lib.hid (fun w1 (h : Below w.heap.size w w1) => Natural_any vk key data table p.size w1 (hk.below h))
  obtain ⟨A, c, rfl, _⟩ := hk
  obtain ⟨m, hm1, hm2, hm3, _, _, _, ht1, ht2, hpn⟩ := pnat_ok key data table p.size hn
  have hw1 := pwrong_ok (l := sb p) (a := 4) (b := 12) (by rw [hw])
  have HM := Lib.hid (fun w1 => Mod_ok p (ofL (pnatL key data table m)) true w1 hp (by rw [ofL_size, pnatL_len _ _ _ _ hm3]; omega) hw1.2.2.1 (by rw [sb_ofL]; exact pnatL_dig _ _ _ _ ht1 ht2))
  rw [hpn] at HA ⊢
  clear hn hpn hm1 hm2 hm3 ht1 ht2 hw hw1 hp
  go_enter Tryd.func39, Tryd.ntmps39
  go_wp2_with (first
    | (go_at_call 61; refine HR.out.mono ?_; rintro e w1 ⟨v, rfl, hE, hL⟩; obtain rfl := hE.nil)
    | (go_at_call 24; refine (HA.out w1 hL).mono ?_; rintro e w2 ⟨v, rfl, hE2, hL2⟩; obtain rfl := hE2.nil)
    | (go_at_call 46; refine (HM.out w2).mono ?_; rintro e w3 ⟨rfl, hL3⟩))
  go_ret2
  exact ⟨rfl, below_more (below_more hL hL2 hL.size) hL3 (below_more hL hL2 hL.size).size⟩
theorem Of_any (vk : Value) (key : List UInt8) (data table p : ByteArray) (w : World) (hk : SlB w vk key) (hp : p.size ≤ 1000) :
    Calls Tryd.prog 39 #[vk, .string data, .string table, .string p] w fun e w' => ∃ v, e = .returned (.tuple #[.string (pof key data table p).1, v]) ∧ ErOf w' v (pof key data table p).2.1 (pof key data table p).2.2 ∧ Below w.heap.size w w' := by
  unfold pof
  by_cases h1 : (pwrong (sb p) 4 12).1 ≠ 0
  · rw [if_pos h1]; exact Of_bad vk key data table p w hk hp h1
  rw [if_neg h1]
  have hw := (pwrong_ok (l := sb p) (a := 4) (b := 12) (by simpa using h1)).2.2.2
  by_cases h2 : (pnat key data table p.size).2.1 ≠ 0
  · rw [if_pos h2]; exact Of_nbad vk key data table p w hk hp hw h2
  rw [if_neg h2]
  exact (Of_ok vk key data table p w hk hp hw (by simpa using h2)).mono fun e w' h => ⟨_, h.1, erOf_nil _, h.2⟩
theorem pof_ok (key : List UInt8) (data table p : ByteArray) (h : (pof key data table p).2.1 = 0) : (pof key data table p).1.size = p.size ∧ pf 10 (sb (pof key data table p).1) = -1 ∧ (pof key data table p).2.2 = -1 ∧ pf 10 (sb p) = -1 ∧ 4 ≤ p.size ∧ p.size ≤ 12 := by
  unfold pof at h ⊢
  split at h
  · rename_i h1; exact absurd h h1
  rename_i h1
  split at h
  · rename_i h2; exact absurd h h2
  rename_i h2
  rw [if_neg h1, if_neg h2]
  have hw := pwrong_ok (l := sb p) (a := 4) (b := 12) (by simpa using h1)
  rw [sb_len] at hw
  refine ⟨by show (ofL _).size = _; rw [ofL_size, pmod_len, sb_len], ?_, rfl, hw.2.2.1, hw.1, hw.2.1⟩
  show pf 10 (sb (ofL _)) = -1
  rw [sb_ofL]
  exact pf_of_all (pmod_dig _ _ _)
end Go.Proofs.YtbbfjlnkhenbiaaDoor
set_option linter.unusedVariables false
set_option linter.unusedSimpArgs false
namespace Go.Proofs.YtbbfjlnkhenbiaaDoor
open Go Go.RowKit Lk
/-- what is wrong with a PIN and an offset, and where -/
def pver (key : List UInt8) (data table off p : ByteArray) : Int × Int :=
  if (pof key data table p).2.1 ≠ 0 then ((pof key data table p).2.1, (pof key data table p).2.2)
  else if off.size ≠ p.size then (2, -1)
  else if 0 ≤ pf 10 (sb off) then (16, pf 10 (sb off))
  else if sb off = sb (pof key data table p).1 then (0, -1) else (12, -1)
set_option maxHeartbeats 1600000 in
set_option maxRecDepth 100000 in
theorem Verify_of (vk : Value) (key : List UInt8) (data table off p : ByteArray) (w : World) (hk : SlB w vk key) (hp : p.size ≤ 1000) (hn : (pof key data table p).2.1 ≠ 0) :
    Calls Tryd.prog 26 #[vk, .string data, .string table, .string off, .string p] w fun e w' => ∃ v, e = .returned v ∧ ErOf w' v (pof key data table p).2.1 (pof key data table p).2.2 ∧ Below w.heap.size w w' := by
  have HA := Lib.hid (Of_any vk key data table p w hk hp)
  obtain ⟨A, c, rfl, _⟩ := hk
  obtain ⟨pr, epr⟩ : ∃ pr, pof key data table p = pr := ⟨_, rfl⟩
  rw [epr] at HA hn ⊢
  have HW := Lib.hid hn
  clear epr hp hn
  go_enter Tryd.func26, Tryd.ntmps26
  go_wp2_with (go_at_call 39; refine HA.out.mono ?_; rintro e w1 ⟨v, rfl, hE, hL⟩; obtain ⟨eT, ex, rfl⟩ := hE.form HW.out)
  go_ret
  exact ⟨_, rfl, hE, hL⟩
set_option maxHeartbeats 1600000 in
set_option maxRecDepth 100000 in
theorem Verify_mod (vk : Value) (key : List UInt8) (data table off p : ByteArray) (ats : List Int) (why : Int) (w : World) (hk : SlB w vk key) (hp : p.size ≤ 1000) (hn : (pof key data table p).2.1 = 0)
    (HM : ∀ w1, Calls Tryd.prog 46 #[.string off, .string (pof key data table p).1, .bool true] w1 fun e w' => ∃ v, e = .returned (.tuple #[.string ByteArray.empty, v]) ∧ ErV w' ats why v ∧ Below w1.heap.size w1 w') :
    Calls Tryd.prog 26 #[vk, .string data, .string table, .string off, .string p] w fun e w' => ∃ v, e = .returned v ∧ ErV w' ats why v ∧ Below w.heap.size w w' := by
  have HA := Lib.hid (Of_any vk key data table p w hk hp)
  rw [hn, (pof_ok _ _ _ _ hn).2.2.1] at HA
  have HMM := Lib.hid HM
  obtain ⟨A, c, rfl, _⟩ := hk
  clear hp hn HM
  go_enter Tryd.func26, Tryd.ntmps26
  go_wp2_with (first
    | (go_at_call 39; refine HA.out.mono ?_; rintro e w1 ⟨v, rfl, hE, hL⟩; obtain rfl := hE.nil)
    | (go_at_call 46; refine (HMM.out w1).mono ?_; rintro e w2 ⟨v, rfl, hE2, hL2⟩; obtain ⟨eT, ex, rfl⟩ := hE2.form))
  go_ret
  exact ⟨_, rfl, hE2, below_more hL hL2 hL.size⟩
set_option maxHeartbeats 3200000 in
set_option maxRecDepth 100000 in
theorem Verify_eq (vk : Value) (key : List UInt8) (data table off p : ByteArray) (w : World) (hk : SlB w vk key) (hp : p.size ≤ 1000) (hn : (pof key data table p).2.1 = 0) (hs : off.size = p.size) (hd : pf 10 (sb off) = -1) :
    Calls Tryd.prog 26 #[vk, .string data, .string table, .string off, .string p] w fun e w' => e = .returned (if sb off = sb (pof key data table p).1 then .nilIface else .iface 68 (.int .i64 12)) ∧ Below w.heap.size w w' := by
  have HA := Lib.hid (Of_any vk key data table p w hk hp)
  have ho := pof_ok _ _ _ _ hn
  rw [hn, ho.2.2.1] at HA
  have HM := Lib.hid (fun w1 => Mod_ok off (pof key data table p).1 true w1 (by omega) (by rw [ho.1, hs]) hd ho.2.1)
  obtain ⟨A, c, rfl, _⟩ := hk
  obtain ⟨W, eW⟩ : ∃ W, (pof key data table p).1 = W := ⟨_, rfl⟩
  rw [eW] at HA HM ⊢
  have HWs := Lib.hid (show W.size ≤ 1000 from by rw [← eW]; omega)
  have HOs := Lib.hid (show off.size ≤ 1000 from by omega)
  obtain ⟨q, hq⟩ : ∃ q, (sb off == sb W) = q := ⟨_, rfl⟩
  have HQ := Lib.hid hq
  have HEQ := Lib.hid (fun (va vb : Value) (w1 : World) (h1 : SlB w1 va (sb off)) (h2 : SlB w1 vb (sb W)) => by
    have h := Equal_any va vb (sb off) (sb W) w1 h1 h2 (by rw [sb_len]; omega)
    rwa [hq] at h)
  clear hp hn hs hd ho eW hq
  cases q
  · have hne : ¬ sb off = sb W := by simpa using HQ.out
    rw [if_neg hne]
    clear hne
    go_enter Tryd.func26, Tryd.ntmps26
    go_wp2_with (first
      | (go_at_call 39; refine HA.out.mono ?_; rintro e w1 ⟨v, rfl, hE, hL⟩; obtain rfl := hE.nil)
      | (go_at_call 46; refine (HM.out w1).mono ?_; rintro e w2 ⟨rfl, hL2⟩; have hM2 := below_more hL hL2 hL.size)
      | ((with_reducible show wpList _ _ _ _ _ w2); refine op_cvb (w := w2) rfl _ rfl off (by rfl) HOs.out ?_; intro v3 w3 hS3 hL3 hv3; have hM3 := below_more hM2 hL3 hM2.size)
      | ((with_reducible show wpList _ _ _ _ _ w3); refine op_cvb (w := w3) rfl _ rfl W (by rfl) HWs.out ?_; intro v4 w4 hS4 hL4 hv4; have hM4 := below_more hM3 hL4 hM3.size; have hS34 := hS3.below hL4)
      | (go_at_call 47; refine (HEQ.out _ _ w4 hS34 hS4).mono ?_; rintro e w5 ⟨rfl, hdr⟩; have hM5 := below_more hM4 hdr.below0 hM4.size))
    go_ret
    exact ⟨rfl, hM5⟩
  · have hne : sb off = sb W := by simpa using HQ.out
    rw [if_pos hne]
    clear hne
    go_enter Tryd.func26, Tryd.ntmps26
    go_wp2_with (first
      | (go_at_call 39; refine HA.out.mono ?_; rintro e w1 ⟨v, rfl, hE, hL⟩; obtain rfl := hE.nil)
      | (go_at_call 46; refine (HM.out w1).mono ?_; rintro e w2 ⟨rfl, hL2⟩; have hM2 := below_more hL hL2 hL.size)
      | ((with_reducible show wpList _ _ _ _ _ w2); refine op_cvb (w := w2) rfl _ rfl off (by rfl) HOs.out ?_; intro v3 w3 hS3 hL3 hv3; have hM3 := below_more hM2 hL3 hM2.size)
      | ((with_reducible show wpList _ _ _ _ _ w3); refine op_cvb (w := w3) rfl _ rfl W (by rfl) HWs.out ?_; intro v4 w4 hS4 hL4 hv4; have hM4 := below_more hM3 hL4 hM3.size; have hS34 := hS3.below hL4)
      | (go_at_call 47; refine (HEQ.out _ _ w4 hS34 hS4).mono ?_; rintro e w5 ⟨rfl, hdr⟩; have hM5 := below_more hM4 hdr.below0 hM4.size))
    go_ret
    exact ⟨rfl, hM5⟩
theorem VerifyO_any (vk : Value) (key : List UInt8) (data table off p : ByteArray) (w : World) (hk : SlB w vk key) (hp : p.size ≤ 1000) (ho : off.size ≤ 1000) :
    Calls Tryd.prog 26 #[vk, .string data, .string table, .string off, .string p] w fun e w' => ∃ v, e = .returned v ∧ ErOf w' v (pver key data table off p).1 (pver key data table off p).2 ∧ Below w.heap.size w w' := by
  unfold pver
  by_cases h1 : (pof key data table p).2.1 ≠ 0
  · rw [if_pos h1]; exact Verify_of vk key data table off p w hk hp h1
  rw [if_neg h1]
  have hn : (pof key data table p).2.1 = 0 := by simpa using h1
  have hk2 := pof_ok _ _ _ _ hn
  by_cases h2 : off.size ≠ p.size
  · rw [if_pos h2]
    refine (Verify_mod vk key data table off p [] 2 w hk hp hn fun w1 => (Mod_size off _ true w1 (by rw [hk2.1]; exact h2)).mono fun e w' h => ⟨_, h.1, rfl, by rw [h.2]; exact Below.refl _ _⟩).mono ?_
    rintro e w' ⟨v, h, hE, hb⟩
    exact ⟨v, h, .inr (.inl ⟨by show (2 : Int) ≠ 0; decide, rfl, hE⟩), hb⟩
  rw [if_neg h2]
  have hs : off.size = p.size := by simpa using h2
  rcases pf_cases 10 (sb off) with ⟨h3, _⟩ | ⟨k, h3, hk3, _⟩
  · rw [h3, if_neg (by omega)]
    refine (Verify_eq vk key data table off p w hk hp hn hs h3).mono ?_
    rintro e w' ⟨he, hb⟩
    subst he
    by_cases h : sb off = sb (pof key data table p).1
    · rw [if_pos h, if_pos h]; exact ⟨_, rfl, erOf_nil _, hb⟩
    · rw [if_neg h, if_neg h]; exact ⟨_, rfl, erOf_no _ _ (by decide), hb⟩
  · rw [h3, if_pos (by omega)]
    refine (Verify_mod vk key data table off p [(k : Int)] 16 w hk hp hn fun w1 => Mod_bad off _ true k w1 ho (by rw [hk2.1]; exact hs) h3).mono ?_
    rintro e w' ⟨v, h, hE, hb⟩
    exact ⟨v, h, .inr (.inr ⟨by show (16 : Int) ≠ 0; decide, by show (0 : Int) ≤ (k : Int); omega, hE⟩), hb⟩
/-- an account's validation data -/
def pdat (pan : ByteArray) : ByteArray := pan.extract (pan.size - 13) (pan.size - 1) ++ ⟨#[70, 70, 70, 70]⟩
set_option maxHeartbeats 1600000 in
set_option maxRecDepth 100000 in
theorem Data_bad (pan : ByteArray) (w : World) (hp : pan.size ≤ 1000) (hw : (pwrong (sb pan) 13 19).1 ≠ 0) :
    Calls Tryd.prog 23 #[.string pan] w fun e w' => ∃ v, e = .returned (.tuple #[.string ByteArray.empty, v]) ∧ ErOf w' v (pwrong (sb pan) 13 19).1 (pwrong (sb pan) 13 19).2 ∧ Below w.heap.size w w' := by
  have HR := Lib.hid (Account_any pan w hp)
  obtain ⟨pr, epr⟩ : ∃ pr, pwrong (sb pan) 13 19 = pr := ⟨_, rfl⟩
  rw [epr] at HR hw ⊢
  have HW := Lib.hid hw
  clear epr hp hw
  go_enter Tryd.func23, Tryd.ntmps23
  go_wp2_with (go_at_call 40; refine HR.out.mono ?_; rintro e w1 ⟨v, rfl, hE, hL⟩; obtain ⟨eT, ex, rfl⟩ := hE.form HW.out)
  go_ret2
  exact ⟨_, rfl, hE, hL⟩
set_option maxHeartbeats 1600000 in
set_option maxRecDepth 100000 in
theorem Data_ok (pan : ByteArray) (w : World) (hw : pwrong (sb pan) 13 19 = (0, -1)) :
    Calls Tryd.prog 23 #[.string pan] w fun e w' => e = .returned (.tuple #[.string (pdat pan), .nilIface]) ∧ Below w.heap.size w w' := by
  have hl := pwrong_ok (l := sb pan) (a := 13) (b := 19) (by rw [hw])
  rw [sb_len] at hl
  have HR := Lib.hid (Account_any pan w (by omega))
  rw [hw] at HR
  obtain ⟨K, eK⟩ : ∃ K, pan.size = 13 + K := ⟨pan.size - 13, by omega⟩
  have hw1 : wrap64 ((pan.size : Int) - 13) = (K : Int) := by unfold wrap64; omega
  have hw2 : wrap64 ((pan.size : Int) - 1) = ((K + 12 : Nat) : Int) := by unfold wrap64; omega
  have HD := Lib.hid (show pan.extract K (K + 12) ++ ⟨#[70, 70, 70, 70]⟩ = pdat pan from by unfold pdat; rw [show pan.size - 13 = K by omega, show pan.size - 1 = K + 12 by omega])
  have hk : K + 12 ≤ pan.size := by omega
  have hki : ((K + 12 : Nat) : Int) ≤ (pan.size : Int) := by omega
  have hK6 : K ≤ 6 := by omega
  clear hl hw
  go_enter Tryd.func23, Tryd.ntmps23
  go_wp2_with (go_at_call 40; refine HR.out.mono ?_; rintro e w1 ⟨v, rfl, hE, hL⟩; obtain rfl := hE.nil)
  go_ret2
  exact ⟨by rw [← HD.out, Nat.add_comm K 12]; rfl, hL⟩
end Go.Proofs.YtbbfjlnkhenbiaaDoor
