/- Products in the field of 256 elements: plain facts on bytes, no program in sight. -/
import Derived.Laws.BitsLemmas
import GoSem.Claim
import Derived.StillTail
import Derived.Deep.QuietTactic
import Derived.Test.YtbbfjlnkhenbiaaDoorProg
import Derived.Below
import Derived.Deep.Draws
import Derived.Deep.AppendLies
import Derived.OwnWalk
import Derived.Laws.BytesArg
import Derived.Laws.MakeOwn
import Derived.Laws.OwnMore
import Derived.Deep.OwnRows
import Derived.Tactics
import Derived.Lib.ConvBytes
import Derived.Laws.Slices
import Derived.WalkKit
import Derived.KernelRfl
import Derived.RowKit3
import Derived.Deep.LoopGhost
import Derived.BigQuiet
import Derived.BigRegion
import Derived.WideLaws
import Derived.Deep.DeepCutAuto
import Derived.Deep.CutBlock
import Derived.Deep.RegionHeld3
import Derived.Deep.WholeRow
import Derived.Laws.Rows
import Derived.Lib.AppendStr
import Derived.ArgAppend
import Derived.Laws.IdiomCopy
import Derived.OrdersHeld
import Derived.RowKit
import Derived.Lib.Hide
import Derived.WalkSpells
import Derived.StillTailTactics
import Derived.Deep.RegionWith
import Derived.Deep.RegionLaw
import Derived.WalkLawsBesides
import Derived.Laws.ResultCell
import Derived.Laws.AppendOwnNone
import Derived.IntWalk
set_option linter.unusedSimpArgs false
namespace Lk
def xt (a : UInt8) : UInt8 := (a <<< 1) ^^^ (if a &&& 0x80 != 0 then 0x1b else 0)
def allB (p : UInt8 → Bool) : Bool := (List.range 256).all fun n => p (UInt8.ofNat n)
theorem allB_spec {p : UInt8 → Bool} (h : allB p = true) (a : UInt8) : p a = true := by
  unfold allB at h
  rw [List.all_eq_true] at h
  have := h a.toNat (by rw [List.mem_range]; exact a.toNat_lt)
  simpa using this
def hi (a : UInt8) : UInt8 := if a &&& 0x80 != 0 then 0x1b else 0
set_option maxRecDepth 10000 in
theorem hi80 (a : UInt8) : (a &&& 0x80 = 0 ∧ hi a = 0) ∨ (a &&& 0x80 = 0x80 ∧ hi a = 0x1b) := by
  have := allB_spec (p := fun a => (a &&& 0x80 == 0 && hi a == 0) || (a &&& 0x80 == 0x80 && hi a == 0x1b)) (by decide +kernel) a
  simpa using this
theorem hi_of0 {a : UInt8} (h : a &&& 0x80 = 0) : hi a = 0 := by simp [hi, h]
theorem hi_of1 {a : UInt8} (h : a &&& 0x80 = 0x80) : hi a = 0x1b := by rw [hi, h]; decide
theorem and_xor (a b c : UInt8) : (a ^^^ b) &&& c = (a &&& c) ^^^ (b &&& c) := by
  apply UInt8.eq_of_toBitVec_eq
  simp only [UInt8.toBitVec_and, UInt8.toBitVec_xor]
  ext i hi
  simp only [BitVec.getElem_and, BitVec.getElem_xor]
  exact Bool.and_xor_distrib_right _ _ _
theorem shl_xor (a b c : UInt8) : (a ^^^ b) <<< c = (a <<< c) ^^^ (b <<< c) := by
  apply UInt8.eq_of_toBitVec_eq
  simp [BitVec.shiftLeft_xor_distrib]
theorem shr_xor (a b c : UInt8) : (a ^^^ b) >>> c = (a >>> c) ^^^ (b >>> c) := by
  apply UInt8.eq_of_toBitVec_eq
  simp [BitVec.ushiftRight_xor_distrib]
theorem hi_xor (a b : UInt8) : hi (a ^^^ b) = hi a ^^^ hi b := by
  rcases hi80 a with ⟨h1, e1⟩ | ⟨h1, e1⟩ <;> rcases hi80 b with ⟨h2, e2⟩ | ⟨h2, e2⟩ <;> rw [e1, e2] <;>
    first | (rw [hi_of0 (by rw [and_xor, h1, h2]; decide)]; decide) | (rw [hi_of1 (by rw [and_xor, h1, h2]; decide)]; decide)
theorem xt_xor (a b : UInt8) : xt (a ^^^ b) = xt a ^^^ xt b := by
  show ((a ^^^ b) <<< 1) ^^^ hi (a ^^^ b) = (a <<< 1 ^^^ hi a) ^^^ (b <<< 1 ^^^ hi b)
  rw [hi_xor, shl_xor]
  ac_rfl

def mulLoop : Nat → UInt8 → UInt8 → UInt8 → UInt8
  | 0, o, _, _ => o
  | k + 1, o, a, b => mulLoop k (if b &&& 1 == 1 then o ^^^ a else o) (xt a) (b >>> 1)
/-- the product -/
def gmul (a b : UInt8) : UInt8 := mulLoop 8 0 a b
/-! the same on plain numbers: the kernel reckons these fast -/
def xtN (a : Nat) : Nat := bif Nat.blt a 128 then Nat.mul 2 a else Nat.xor (Nat.mul 2 a) 283
def mulN : Nat → Nat → Nat → Nat → Nat
  | 0, o, _, _ => o
  | k + 1, o, a, b => mulN k (bif Nat.beq (Nat.mod b 2) 1 then Nat.xor o a else o) (xtN a) (Nat.div b 2)
def gmulN (a b : Nat) : Nat := mulN 8 0 a b
set_option maxRecDepth 10000 in
theorem step_all : allB (fun a => Nat.beq (xt a).toNat (xtN a.toNat) && Nat.beq (a >>> 1).toNat (Nat.div a.toNat 2) && ((a &&& 1 == 1) == Nat.beq (Nat.mod a.toNat 2) 1)) = true := by decide +kernel
theorem step_spec (a : UInt8) : (xt a).toNat = xtN a.toNat ∧ (a >>> 1).toNat = Nat.div a.toNat 2 ∧ (a &&& 1 == 1) = Nat.beq (Nat.mod a.toNat 2) 1 := by
  have := allB_spec step_all a
  simp only [Bool.and_eq_true, Nat.beq_eq, beq_iff_eq (α := Bool)] at this
  exact ⟨this.1.1, this.1.2, this.2⟩
theorem mulLoop_N (k : Nat) : ∀ o a b, (mulLoop k o a b).toNat = mulN k o.toNat a.toNat b.toNat := by
  induction k with
  | zero => intro o a b; rfl
  | succ k ih =>
    intro o a b
    simp only [mulLoop, mulN]
    rw [ih, (step_spec a).1, (step_spec b).2.1, ← (step_spec b).2.2]
    cases (b &&& 1 == 1) <;> simp <;> rfl
theorem gmul_N (a b : UInt8) : (gmul a b).toNat = gmulN a.toNat b.toNat := mulLoop_N 8 0 a b
theorem toNat_eq {a b : UInt8} : (a == b) = Nat.beq a.toNat b.toNat := by
  by_cases h : a = b
  · subst h; simp
  · have : a.toNat ≠ b.toNat := fun e => h (UInt8.toNat.inj e)
    rw [beq_eq_false_iff_ne.2 h, Bool.eq_false_iff.2 (fun e => this (Nat.eq_of_beq_eq_true e))]
/-- all numbers below 256 -/
def allN (p : Nat → Bool) : Bool := (List.range 256).all p
theorem allN_spec {p : Nat → Bool} (h : allN p = true) (a : UInt8) : p a.toNat = true := by
  unfold allN at h
  rw [List.all_eq_true] at h
  exact h a.toNat (by rw [List.mem_range]; exact a.toNat_lt)
def sel (b a : UInt8) : UInt8 := if b &&& 1 == 1 then a else 0
set_option maxRecDepth 10000 in
theorem low01 (b : UInt8) : b &&& 1 = 0 ∨ b &&& 1 = 1 := by
  have := allB_spec (p := fun b => b &&& 1 == 0 || b &&& 1 == 1) (by decide +kernel) b
  simpa using this
theorem sel_0 {b : UInt8} (h : b &&& 1 = 0) (a : UInt8) : sel b a = 0 := by
  unfold sel; rw [h]; rfl
theorem sel_1 {b : UInt8} (h : b &&& 1 = 1) (a : UInt8) : sel b a = a := by
  unfold sel; rw [h]; rfl
theorem mulLoop_out (k : Nat) : ∀ o a b, mulLoop k o a b = o ^^^ mulLoop k 0 a b := by
  induction k with
  | zero => intro o a b; simp [mulLoop]
  | succ k ih =>
    intro o a b
    simp only [mulLoop]
    rw [ih]
    conv => rhs; rw [ih]
    split <;> simp [UInt8.xor_assoc]
theorem mulLoop_succ (k : Nat) (a b : UInt8) : mulLoop (k + 1) 0 a b = sel b a ^^^ mulLoop k 0 (xt a) (b >>> 1) := by
  simp only [mulLoop]
  rw [mulLoop_out]
  unfold sel
  split <;> simp
theorem sel_xor_right (b a a' : UInt8) : sel b (a ^^^ a') = sel b a ^^^ sel b a' := by
  unfold sel; split <;> simp
theorem sel_xor_left (b b' a : UInt8) : sel (b ^^^ b') a = sel b a ^^^ sel b' a := by
  rcases low01 b with h1 | h1 <;> rcases low01 b' with h2 | h2
  · rw [sel_0 h1, sel_0 h2, sel_0 (by rw [and_xor, h1, h2]; decide)]; simp
  · rw [sel_0 h1, sel_1 h2, sel_1 (by rw [and_xor, h1, h2]; decide)]; simp
  · rw [sel_1 h1, sel_0 h2, sel_1 (by rw [and_xor, h1, h2]; decide)]; simp
  · rw [sel_1 h1, sel_1 h2, sel_0 (by rw [and_xor, h1, h2]; decide)]; simp
theorem loop_xor_left (k : Nat) : ∀ a a' b, mulLoop k 0 (a ^^^ a') b = mulLoop k 0 a b ^^^ mulLoop k 0 a' b := by
  induction k with
  | zero => intro a a' b; simp [mulLoop]
  | succ k ih =>
    intro a a' b
    rw [mulLoop_succ, mulLoop_succ, mulLoop_succ, xt_xor, ih, sel_xor_right]
    ac_rfl
theorem loop_xor_right (k : Nat) : ∀ a b b', mulLoop k 0 a (b ^^^ b') = mulLoop k 0 a b ^^^ mulLoop k 0 a b' := by
  induction k with
  | zero => intro a a' b; simp [mulLoop]
  | succ k ih =>
    intro a b b'
    rw [mulLoop_succ, mulLoop_succ, mulLoop_succ, shr_xor, ih, sel_xor_left]
    ac_rfl
theorem gmul_xor_left (a a' b : UInt8) : gmul (a ^^^ a') b = gmul a b ^^^ gmul a' b := loop_xor_left 8 a a' b
theorem gmul_xor_right (a b b' : UInt8) : gmul a (b ^^^ b') = gmul a b ^^^ gmul a b' := loop_xor_right 8 a b b'

/-! what is additive is known by its values at the eight bits -/
def bit8 : List UInt8 := [1, 2, 4, 8, 16, 32, 64, 128]
def Add (f : UInt8 → UInt8) : Prop := ∀ a b, f (a ^^^ b) = f a ^^^ f b
theorem Add.zero {f : UInt8 → UInt8} (h : Add f) : f 0 = 0 := by
  have := h 0 0
  simpa using this
set_option maxRecDepth 10000 in
theorem split8 (a : UInt8) : a = (a &&& 1) ^^^ (a &&& 2) ^^^ (a &&& 4) ^^^ (a &&& 8) ^^^ (a &&& 16) ^^^ (a &&& 32) ^^^ (a &&& 64) ^^^ (a &&& 128) := by
  have := allB_spec (p := fun a => a == (a &&& 1) ^^^ (a &&& 2) ^^^ (a &&& 4) ^^^ (a &&& 8) ^^^ (a &&& 16) ^^^ (a &&& 32) ^^^ (a &&& 64) ^^^ (a &&& 128)) (by decide +kernel) a
  simpa using this
set_option maxRecDepth 10000 in
theorem bit_or (a c : UInt8) (hc : c ∈ bit8) : a &&& c = 0 ∨ a &&& c = c := by
  have := allB_spec (p := fun a => bit8.all fun c => a &&& c == 0 || a &&& c == c) (by decide +kernel) a
  rw [List.all_eq_true] at this
  simpa using this c hc
theorem add_ext {f g : UInt8 → UInt8} (hf : Add f) (hg : Add g) (h : ∀ c ∈ bit8, f c = g c) (a : UInt8) : f a = g a := by
  have h0 : ∀ c ∈ bit8, f (a &&& c) = g (a &&& c) := by
    intro c hc
    rcases bit_or a c hc with e | e <;> rw [e]
    · rw [hf.zero, hg.zero]
    · exact h c hc
  rw [split8 a]
  simp only [hf _ _, hg _ _]
  rw [h0 1 (by decide), h0 2 (by decide), h0 4 (by decide), h0 8 (by decide), h0 16 (by decide), h0 32 (by decide), h0 64 (by decide), h0 128 (by decide)]
theorem gmul_add_left (b : UInt8) : Add fun a => gmul a b := fun a a' => gmul_xor_left a a' b
theorem gmul_add_right (a : UInt8) : Add fun b => gmul a b := fun b b' => gmul_xor_right a b b'
theorem Add.comp {f g : UInt8 → UInt8} (hf : Add f) (hg : Add g) : Add fun a => f (g a) := fun a b => by
  show f (g (a ^^^ b)) = _
  rw [hg, hf]
theorem comm_bits : bit8.all (fun a => bit8.all fun b => Nat.beq (gmulN a.toNat b.toNat) (gmulN b.toNat a.toNat)) = true := by decide +kernel
theorem gmul_comm (a b : UInt8) : gmul a b = gmul b a := by
  refine add_ext (gmul_add_left b) (gmul_add_right b) (fun c hc => ?_) a
  refine add_ext (gmul_add_right c) (gmul_add_left c) (fun d hd => ?_) b
  have := comm_bits
  rw [List.all_eq_true] at this
  have := this c hc
  rw [List.all_eq_true] at this
  have := this d hd
  exact UInt8.toNat.inj (by rw [gmul_N, gmul_N]; exact Nat.eq_of_beq_eq_true this)
theorem assoc_bits : bit8.all (fun a => bit8.all fun b => bit8.all fun c => Nat.beq (gmulN a.toNat (gmulN b.toNat c.toNat)) (gmulN (gmulN a.toNat b.toNat) c.toNat)) = true := by decide +kernel
theorem gmul_assoc (a b c : UInt8) : gmul a (gmul b c) = gmul (gmul a b) c := by
  refine add_ext (gmul_add_left _) ((gmul_add_left c).comp (gmul_add_left b)) (fun x hx => ?_) a
  refine add_ext ((gmul_add_right x).comp (gmul_add_left c)) ((gmul_add_left c).comp (gmul_add_right x)) (fun y hy => ?_) b
  refine add_ext ((gmul_add_right x).comp (gmul_add_right y)) (gmul_add_right _) (fun z hz => ?_) c
  have := assoc_bits
  rw [List.all_eq_true] at this
  have := this x hx
  rw [List.all_eq_true] at this
  have := this y hy
  rw [List.all_eq_true] at this
  have := this z hz
  exact UInt8.toNat.inj (by rw [gmul_N, gmul_N, gmul_N, gmul_N]; exact Nat.eq_of_beq_eq_true this)
theorem gmul_zero_left (b : UInt8) : gmul 0 b = 0 := (gmul_add_left b).zero
theorem gmul_zero_right (b : UInt8) : gmul b 0 = 0 := (gmul_add_right b).zero

def invLoop : Nat → UInt8 → UInt8 → UInt8
  | 0, o, _ => o
  | k + 1, o, a => invLoop k (gmul o (gmul a a)) (gmul a a)
def ginv (a : UInt8) : UInt8 := invLoop 7 1 a
def invN : Nat → Nat → Nat → Nat
  | 0, o, _ => o
  | k + 1, o, a => invN k (gmulN o (gmulN a a)) (gmulN a a)
def ginvN (a : Nat) : Nat := invN 7 1 a
theorem invLoop_N (k : Nat) : ∀ o a, (invLoop k o a).toNat = invN k o.toNat a.toNat := by
  induction k with
  | zero => intro o a; rfl
  | succ k ih =>
    intro o a
    simp only [invLoop, invN]
    rw [ih, gmul_N, gmul_N]
theorem ginv_N (a : UInt8) : (ginv a).toNat = ginvN a.toNat := invLoop_N 7 1 a
set_option maxRecDepth 10000 in
theorem inv_all : allN (fun a => (Nat.beq a 0 && Nat.beq (ginvN a) 0 || Nat.beq (gmulN a (ginvN a)) 1) && Nat.beq (gmulN a 1) a && Nat.beq (ginvN (ginvN a)) a) = true := by decide +kernel
theorem u8_of {a : UInt8} {n : Nat} (h : a.toNat = n) : a = UInt8.ofNat n := by rw [← h]; simp
theorem inv_spec (a : UInt8) : (a = 0 ∧ ginv a = 0 ∨ gmul a (ginv a) = 1) ∧ gmul a 1 = a ∧ ginv (ginv a) = a := by
  have := allN_spec inv_all a
  simp only [Bool.and_eq_true, Bool.or_eq_true, Nat.beq_eq] at this
  refine ⟨?_, ?_, ?_⟩
  · rcases this.1.1 with ⟨h1, h2⟩ | h
    · exact .inl ⟨u8_of h1, u8_of (by rw [ginv_N]; exact h2)⟩
    · exact .inr (u8_of (by rw [gmul_N, ginv_N]; exact h))
  · exact UInt8.toNat.inj (by rw [gmul_N]; exact this.1.2)
  · exact UInt8.toNat.inj (by rw [ginv_N, ginv_N]; exact this.2)
theorem gmul_one (a : UInt8) : gmul a 1 = a := (inv_spec a).2.1
theorem one_gmul (a : UInt8) : gmul 1 a = a := by rw [gmul_comm, gmul_one]
theorem gmul_eq_zero (a b : UInt8) : gmul a b = 0 ↔ a = 0 ∨ b = 0 := by
  constructor
  · intro h
    rcases (inv_spec a).1 with ⟨h0, _⟩ | h1
    · exact .inl h0
    · refine .inr ?_
      have : gmul (gmul (ginv a) a) b = 0 := by rw [← gmul_assoc, h, gmul_zero_right]
      rwa [gmul_comm (ginv a) a, h1, one_gmul] at this
  · rintro (rfl | rfl)
    · exact gmul_zero_left b
    · exact gmul_zero_right a
theorem gmul_sq (a b : UInt8) : gmul (a ^^^ b) (a ^^^ b) = gmul a a ^^^ gmul b b := by
  rw [gmul_xor_left, gmul_xor_right, gmul_xor_right, gmul_comm b a]
  rw [UInt8.xor_assoc, ← UInt8.xor_assoc (gmul a b), UInt8.xor_self, UInt8.zero_xor]
def rot (a : UInt8) (n : Nat) : UInt8 := (a <<< (UInt8.ofNat n)) ||| (a >>> (UInt8.ofNat (8 - n)))
def rotN (a n : Nat) : Nat := Nat.lor (Nat.mod (Nat.shiftLeft a n) 256) (Nat.shiftRight a (8 - n))
theorem rot_N (a : UInt8) (n : Nat) (hn : 0 < n) (h8 : n < 8) : (rot a n).toNat = rotN a.toNat n := by
  unfold rot rotN
  simp only [UInt8.toNat_or, UInt8.toNat_shiftLeft, UInt8.toNat_shiftRight, UInt8.toNat_ofNat']
  rw [Nat.mod_eq_of_lt (show n < 2 ^ 8 by omega), Nat.mod_eq_of_lt (show 8 - n < 2 ^ 8 by omega), Nat.mod_eq_of_lt h8, Nat.mod_eq_of_lt (show 8 - n < 8 by omega)]
  rfl
def gaff (b : UInt8) : UInt8 := b ^^^ rot b 1 ^^^ rot b 2 ^^^ rot b 3 ^^^ rot b 4 ^^^ 0x63
def gbox (a : UInt8) : UInt8 := gaff (ginv a)
def gunbox (a : UInt8) : UInt8 := ginv (rot a 1 ^^^ rot a 3 ^^^ rot a 6 ^^^ 0x05)
def gaffN (b : Nat) : Nat := Nat.xor (Nat.xor (Nat.xor (Nat.xor (Nat.xor b (rotN b 1)) (rotN b 2)) (rotN b 3)) (rotN b 4)) 99
def gboxN (a : Nat) : Nat := gaffN (ginvN a)
def gunboxN (a : Nat) : Nat := ginvN (Nat.xor (Nat.xor (Nat.xor (rotN a 1) (rotN a 3)) (rotN a 6)) 5)
theorem gaff_N (b : UInt8) : (gaff b).toNat = gaffN b.toNat := by
  unfold gaff gaffN
  simp only [UInt8.toNat_xor, rot_N _ 1 (by decide) (by decide), rot_N _ 2 (by decide) (by decide), rot_N _ 3 (by decide) (by decide), rot_N _ 4 (by decide) (by decide)]
  rfl
theorem gbox_N (a : UInt8) : (gbox a).toNat = gboxN a.toNat := by
  unfold gbox gboxN
  rw [gaff_N, ginv_N]
theorem gunbox_N (a : UInt8) : (gunbox a).toNat = gunboxN a.toNat := by
  unfold gunbox gunboxN
  rw [ginv_N]
  simp only [UInt8.toNat_xor, rot_N _ 1 (by decide) (by decide), rot_N _ 3 (by decide) (by decide), rot_N _ 6 (by decide) (by decide)]
  rfl
set_option maxRecDepth 10000 in
theorem box_all : allN (fun a => Nat.beq (gunboxN (gboxN a)) a && Nat.beq (gboxN (gunboxN a)) a) = true := by decide +kernel
theorem unbox_box (a : UInt8) : gunbox (gbox a) = a := by
  have := allN_spec box_all a
  simp only [Bool.and_eq_true, Nat.beq_eq] at this
  exact UInt8.toNat.inj (by rw [gunbox_N, gbox_N]; exact this.1)
theorem box_unbox (a : UInt8) : gbox (gunbox a) = a := by
  have := allN_spec box_all a
  simp only [Bool.and_eq_true, Nat.beq_eq] at this
  exact UInt8.toNat.inj (by rw [gbox_N, gunbox_N]; exact this.2)
/-! the document's product: of all bits, and its rest -/
def tm (a b i j : Nat) : Nat := bif Nat.testBit a i && Nat.testBit b j then Nat.shiftLeft 1 (i + j) else 0
def rinner : Nat → Nat → Nat → Nat → Nat → Nat
  | 0, _, _, _, p => p
  | n + 1, a, b, i, p => rinner n a b i (Nat.xor p (tm a b i (7 - n)))
def router : Nat → Nat → Nat → Nat → Nat
  | 0, _, _, p => p
  | n + 1, a, b, p => router n a b (rinner 8 a b (7 - n) p)
def rt (p n : Nat) : Nat := bif Nat.testBit p (n + 8) then Nat.shiftLeft 283 n else 0
def rred : Nat → Nat → Nat
  | 0, p => p
  | n + 1, p => rred n (Nat.xor p (rt p n))
def rmulN (a b : Nat) : Nat := Nat.mod (rred 7 (router 8 a b 0)) 256
theorem xor4 (p p' x x' : Nat) : Nat.xor (Nat.xor p p') (Nat.xor x x') = Nat.xor (Nat.xor p x) (Nat.xor p' x') := by
  show (p ^^^ p') ^^^ (x ^^^ x') = (p ^^^ x) ^^^ (p' ^^^ x')
  ac_rfl
theorem tm_add_a (a a' b i j : Nat) : tm (Nat.xor a a') b i j = Nat.xor (tm a b i j) (tm a' b i j) := by
  unfold tm
  rw [show Nat.testBit (Nat.xor a a') i = (a.testBit i ^^ a'.testBit i) from Nat.testBit_xor ..]
  cases Nat.testBit a i <;> cases Nat.testBit a' i <;> cases Nat.testBit b j <;> simp [Nat.xor_self, show ∀ x y, Nat.xor x y = x ^^^ y from fun _ _ => rfl]
theorem tm_add_b (a b b' i j : Nat) : tm a (Nat.xor b b') i j = Nat.xor (tm a b i j) (tm a b' i j) := by
  unfold tm
  rw [show Nat.testBit (Nat.xor b b') j = (b.testBit j ^^ b'.testBit j) from Nat.testBit_xor ..]
  cases Nat.testBit a i <;> cases Nat.testBit b j <;> cases Nat.testBit b' j <;> simp [Nat.xor_self, show ∀ x y, Nat.xor x y = x ^^^ y from fun _ _ => rfl]
theorem rt_add (p p' n : Nat) : rt (Nat.xor p p') n = Nat.xor (rt p n) (rt p' n) := by
  unfold rt
  rw [show Nat.testBit (Nat.xor p p') (n + 8) = (p.testBit (n + 8) ^^ p'.testBit (n + 8)) from Nat.testBit_xor ..]
  cases Nat.testBit p (n + 8) <;> cases Nat.testBit p' (n + 8) <;> simp [Nat.xor_self, show ∀ x y, Nat.xor x y = x ^^^ y from fun _ _ => rfl]
theorem rinner_add_a (n : Nat) : ∀ a a' b i p p', rinner n (Nat.xor a a') b i (Nat.xor p p') = Nat.xor (rinner n a b i p) (rinner n a' b i p') := by
  induction n with
  | zero => intros; rfl
  | succ n ih => intro a a' b i p p'; simp only [rinner]; rw [tm_add_a, xor4, ih]
theorem rinner_add_b (n : Nat) : ∀ a b b' i p p', rinner n a (Nat.xor b b') i (Nat.xor p p') = Nat.xor (rinner n a b i p) (rinner n a b' i p') := by
  induction n with
  | zero => intros; rfl
  | succ n ih => intro a b b' i p p'; simp only [rinner]; rw [tm_add_b, xor4, ih]
theorem router_add_a (n : Nat) : ∀ a a' b p p', router n (Nat.xor a a') b (Nat.xor p p') = Nat.xor (router n a b p) (router n a' b p') := by
  induction n with
  | zero => intros; rfl
  | succ n ih => intro a a' b p p'; simp only [router]; rw [rinner_add_a, ih]
theorem router_add_b (n : Nat) : ∀ a b b' p p', router n a (Nat.xor b b') (Nat.xor p p') = Nat.xor (router n a b p) (router n a b' p') := by
  induction n with
  | zero => intros; rfl
  | succ n ih => intro a b b' p p'; simp only [router]; rw [rinner_add_b, ih]
theorem rred_add (n : Nat) : ∀ p p', rred n (Nat.xor p p') = Nat.xor (rred n p) (rred n p') := by
  induction n with
  | zero => intros; rfl
  | succ n ih => intro p p'; simp only [rred]; rw [rt_add, xor4, ih]
theorem mod_xor (x y : Nat) : Nat.mod (Nat.xor x y) 256 = Nat.xor (Nat.mod x 256) (Nat.mod y 256) :=
  Nat.xor_mod_two_pow (n := 8)
theorem rmulN_lt (a b : Nat) : rmulN a b < 256 := Nat.mod_lt _ (by decide)
def rmul (a b : UInt8) : UInt8 := UInt8.ofNat (rmulN a.toNat b.toNat)
theorem rmul_N (a b : UInt8) : (rmul a b).toNat = rmulN a.toNat b.toNat := by
  unfold rmul
  rw [UInt8.toNat_ofNat']
  exact Nat.mod_eq_of_lt (rmulN_lt _ _)
theorem rmul_add_left (b : UInt8) : Add fun a => rmul a b := by
  intro a a'
  apply UInt8.toNat.inj
  show (rmul (a ^^^ a') b).toNat = (rmul a b ^^^ rmul a' b).toNat
  rw [UInt8.toNat_xor, rmul_N, rmul_N, rmul_N, UInt8.toNat_xor]
  show Nat.mod (rred 7 (router 8 (Nat.xor a.toNat a'.toNat) b.toNat (Nat.xor 0 0))) 256 = _
  rw [router_add_a, rred_add, mod_xor]
  rfl
theorem rmul_add_right (a : UInt8) : Add fun b => rmul a b := by
  intro b b'
  apply UInt8.toNat.inj
  show (rmul a (b ^^^ b')).toNat = (rmul a b ^^^ rmul a b').toNat
  rw [UInt8.toNat_xor, rmul_N, rmul_N, rmul_N, UInt8.toNat_xor]
  show Nat.mod (rred 7 (router 8 a.toNat (Nat.xor b.toNat b'.toNat) (Nat.xor 0 0))) 256 = _
  rw [router_add_b, rred_add, mod_xor]
  rfl
theorem rmul_bits : bit8.all (fun a => bit8.all fun b => Nat.beq (rmulN a.toNat b.toNat) (gmulN a.toNat b.toNat)) = true := by decide +kernel
theorem rmul_eq (a b : UInt8) : rmul a b = gmul a b := by
  refine add_ext (rmul_add_left b) (gmul_add_left b) (fun c hc => ?_) a
  refine add_ext (rmul_add_right c) (gmul_add_right c) (fun d hd => ?_) b
  have := rmul_bits
  rw [List.all_eq_true] at this
  have := this c hc
  rw [List.all_eq_true] at this
  have := this d hd
  exact UInt8.toNat.inj (by rw [rmul_N, gmul_N]; exact Nat.eq_of_beq_eq_true this)
theorem rmulN_eq (a b : UInt8) : rmulN a.toNat b.toNat = (gmul a b).toNat := by rw [← rmul_N, rmul_eq]
end Lk
set_option linter.unusedSimpArgs false
namespace Lk
theorem ofInt_u8 (a : UInt8) : BitVec.ofInt 8 (a.toNat : Int) = a.toBitVec := by
  apply BitVec.eq_of_toNat_eq
  rw [BitVec.ofInt_natCast]
  simp
theorem wrap_u8 (n : Nat) (h : n < 256) : Go.IntKind.u8.wrap (n : Int) = n := by
  rw [Go.IntKind.wrap_u8]
  omega
theorem bits_xor_u8 (a b : UInt8) : Go.bits .xor .u8 (a.toNat : Int) (b.toNat : Int) = ((a ^^^ b).toNat : Int) := by
  show Go.IntKind.u8.wrap ((BitVec.ofInt 8 (a.toNat : Int) ^^^ BitVec.ofInt 8 (b.toNat : Int)).toNat : Int) = _
  rw [ofInt_u8, ofInt_u8, wrap_u8 _ (by exact (a.toBitVec ^^^ b.toBitVec).isLt)]
  rfl
theorem bits_and_u8 (a b : UInt8) : Go.bits .and .u8 (a.toNat : Int) (b.toNat : Int) = ((a &&& b).toNat : Int) := by
  show Go.IntKind.u8.wrap ((BitVec.ofInt 8 (a.toNat : Int) &&& BitVec.ofInt 8 (b.toNat : Int)).toNat : Int) = _
  rw [ofInt_u8, ofInt_u8, wrap_u8 _ (by exact (a.toBitVec &&& b.toBitVec).isLt)]
  rfl
theorem bits_or_u8 (a b : UInt8) : Go.bits .or .u8 (a.toNat : Int) (b.toNat : Int) = ((a ||| b).toNat : Int) := by
  show Go.IntKind.u8.wrap ((BitVec.ofInt 8 (a.toNat : Int) ||| BitVec.ofInt 8 (b.toNat : Int)).toNat : Int) = _
  rw [ofInt_u8, ofInt_u8, wrap_u8 _ (by exact (a.toBitVec ||| b.toBitVec).isLt)]
  rfl
theorem dbl_u8 (a : UInt8) : (a.toNat : Int) * (2 : Int) % (256 : Int) = ((a <<< 1).toNat : Int) := by
  rw [UInt8.toNat_shiftLeft, Nat.shiftLeft_eq]
  simp
theorem half_u8 (a : UInt8) : (a.toNat : Int) / (2 : Int) = ((a >>> 1).toNat : Int) := by
  rw [UInt8.toNat_shiftRight, Nat.shiftRight_eq_div_pow]
  simp
theorem u8_eq (a b : UInt8) : ((a.toNat : Int) = (b.toNat : Int)) ↔ a = b := by
  rw [Int.ofNat_inj]
  exact UInt8.toNat_inj
theorem open_u8 {x : Int} (h : (Go.Lit.int .u8 x).wf = true) : ∃ a : UInt8, x = (a.toNat : Int) := by
  simp only [Go.Lit.wf, Go.IntKind.min, Go.IntKind.max, Go.IntKind.bits, Go.IntKind.signed, decide_eq_true_eq, Bool.and_eq_true] at h
  refine ⟨UInt8.ofNat x.toNat, ?_⟩
  simp only [UInt8.toNat_ofNat']
  simp at h
  omega
/-! numbers of 64 bits that are small -/
theorem wrap_i64 (n : Nat) (h : n < 2 ^ 63) : Go.IntKind.i64.wrap (n : Int) = n := by
  rw [Go.IntKind.wrap_i64]
  omega
theorem wrap_u64 (n : Nat) (h : n < 2 ^ 64) : Go.IntKind.u64.wrap (n : Int) = n := by
  simp [Go.IntKind.wrap, Go.IntKind.bits, Go.IntKind.signed]
  omega
theorem ofInt_n (k n : Nat) (h : n < 2 ^ k) : (BitVec.ofInt k (n : Int)).toNat = n := by
  rw [BitVec.ofInt_natCast, BitVec.toNat_ofNat, Nat.mod_eq_of_lt h]
theorem bits_xor_i64 (p q : Nat) (hp : p < 2 ^ 63) (hq : q < 2 ^ 63) : Go.bits .xor .i64 (p : Int) (q : Int) = ((p ^^^ q : Nat) : Int) := by
  show Go.IntKind.i64.wrap ((BitVec.ofInt 64 (p : Int) ^^^ BitVec.ofInt 64 (q : Int)).toNat : Int) = _
  rw [BitVec.toNat_xor, ofInt_n 64 p (by omega), ofInt_n 64 q (by omega), wrap_i64 _ (Nat.xor_lt_two_pow hp hq)]
theorem bits_and_i64 (p q : Nat) (hp : p < 2 ^ 63) (hq : q < 2 ^ 63) : Go.bits .and .i64 (p : Int) (q : Int) = ((p &&& q : Nat) : Int) := by
  show Go.IntKind.i64.wrap ((BitVec.ofInt 64 (p : Int) &&& BitVec.ofInt 64 (q : Int)).toNat : Int) = _
  rw [BitVec.toNat_and, ofInt_n 64 p (by omega), ofInt_n 64 q (by omega), wrap_i64 _ (Nat.and_lt_two_pow _ hq)]
theorem bits_or_i64 (p q : Nat) (hp : p < 2 ^ 63) (hq : q < 2 ^ 63) : Go.bits .or .i64 (p : Int) (q : Int) = ((p ||| q : Nat) : Int) := by
  show Go.IntKind.i64.wrap ((BitVec.ofInt 64 (p : Int) ||| BitVec.ofInt 64 (q : Int)).toNat : Int) = _
  rw [BitVec.toNat_or, ofInt_n 64 p (by omega), ofInt_n 64 q (by omega), wrap_i64 _ (Nat.or_lt_two_pow hp hq)]
theorem bits_xor_u64 (p q : Nat) (hp : p < 2 ^ 64) (hq : q < 2 ^ 64) : Go.bits .xor .u64 (p : Int) (q : Int) = ((p ^^^ q : Nat) : Int) := by
  show Go.IntKind.u64.wrap ((BitVec.ofInt 64 (p : Int) ^^^ BitVec.ofInt 64 (q : Int)).toNat : Int) = _
  rw [BitVec.toNat_xor, ofInt_n 64 p hp, ofInt_n 64 q hq, wrap_u64 _ (Nat.xor_lt_two_pow hp hq)]
theorem bits_and_u64 (p q : Nat) (hp : p < 2 ^ 64) (hq : q < 2 ^ 64) : Go.bits .and .u64 (p : Int) (q : Int) = ((p &&& q : Nat) : Int) := by
  show Go.IntKind.u64.wrap ((BitVec.ofInt 64 (p : Int) &&& BitVec.ofInt 64 (q : Int)).toNat : Int) = _
  rw [BitVec.toNat_and, ofInt_n 64 p hp, ofInt_n 64 q hq, wrap_u64 _ (Nat.and_lt_two_pow _ hq)]
theorem bits_or_u64 (p q : Nat) (hp : p < 2 ^ 64) (hq : q < 2 ^ 64) : Go.bits .or .u64 (p : Int) (q : Int) = ((p ||| q : Nat) : Int) := by
  show Go.IntKind.u64.wrap ((BitVec.ofInt 64 (p : Int) ||| BitVec.ofInt 64 (q : Int)).toNat : Int) = _
  rw [BitVec.toNat_or, ofInt_n 64 p hp, ofInt_n 64 q hq, wrap_u64 _ (Nat.or_lt_two_pow hp hq)]
end Lk
set_option linter.unusedVariables false
set_option linter.unusedSimpArgs false
namespace Lk
open Go
section
variable {P : Program} {md : Region.Mode} {ops : Array Oper} {C : World → Prop} {n : Nat}
/-- f operations, all of the head, whichever is ready; then T, in whatever world of the class -/
def Head (P : Program) (md : Region.Mode) (ops : Array Oper) (C : World → Prop) (n : Nat) (T : Array Bool → Act → Prop) : Nat → Array Bool → Act → Prop
  | 0, s, a => T s a
  | f + 1, s, a => (Region.ready md ops s ≠ []) ∧ ∀ i, i ∈ Region.ready md ops s → i < n ∧ qOp P ops C i (Head P md ops C n T f (s.setIfInBounds i true)) a
theorem Head.any {g : Nat} {T : Array Bool → Act → Prop} {Q : Exit → Act → World → Prop} (hT : ∀ s a w, C w → T s a → wpAny P md ops Q g s a w) (f : Nat) :
    ∀ (s : Array Bool) (a : Act) (w : World), C w → Head P md ops C n T f s a → wpAny P md ops Q (f + g) s a w := by
  induction f with
  | zero => intro s a w hw h; rw [Nat.zero_add]; exact hT s a w hw h
  | succ f ih =>
    intro s a w hw h
    rw [Nat.add_right_comm]
    refine ⟨fun e => (h.1 e).elim, fun i hi => ?_⟩
    exact wpOp_of_qOp hw (fun a' w' hw' h' => ih _ a' w' hw' h') (h.2 i hi).2
/-- the operation i may as well be the first -/
theorem Head.swap {i : Nat} {oi : Oper} {v : Value} {T : Array Bool → Act → Prop} (hi : ops[i]? = some oi) (hsel : ∀ (j : Nat) (o : Oper) cs b, ops[j]? = some o → o.op ≠ .select cs b)
    (hs : Region.sinkB md ops n = true) (hc : Region.chainB md ops n = true) (hn : n < ops.size) (hin : i < n) (hend : ∀ s a, T s a → ∀ j ∈ Region.ready md ops s, n ≤ j) (f : Nat) :
    ∀ (s : Array Bool) (a : Act), HeadInv md ops n s →
      (∀ j oj, ops[j]? = some oj → j ≠ i → s.getD j true = false → (∀ e ∈ oj.after, Region.binds md e = true → e.on ≠ i) → oi.apart ops oj = true) →
      i ∈ Region.ready md ops s → YieldsIn P ops C oi v a → Head P md ops C n T f (s.setIfInBounds i true) (a.put oi.dst v) → Head P md ops C n T (f + 1) s a := by
  induction f with
  | zero =>
    intro s a inv _ hr hy h
    refine ⟨fun e => List.ne_nil_of_mem hr e, fun j hj => ?_⟩
    have hjn : j < n := Nat.lt_of_not_le fun hle => (tail_waits hs hc hn inv _ i rfl hin (mem_ready.1 hr).1 j hle) hj
    by_cases e : j = i
    · rw [e]; exact ⟨hin, hy.qOp hi h⟩
    · exact absurd (hend _ _ h j (ready_mono hj e)) (Nat.not_le.2 hjn)
  | succ f ih =>
    intro s a inv hap hr hy h
    refine ⟨fun e => List.ne_nil_of_mem hr e, fun j hj => ?_⟩
    have hui := (mem_ready.1 hr).1
    have hjn : j < n := Nat.lt_of_not_le fun hle => (tail_waits hs hc hn inv _ i rfl hin hui j hle) hj
    by_cases e : j = i
    · rw [e]; exact ⟨hin, hy.qOp hi h⟩
    · refine ⟨hjn, ?_⟩
      obtain ⟨huj, oj, hoj, hall⟩ := mem_ready.1 hj
      have hno : ∀ d ∈ oj.after, Region.binds md d = true → d.on ≠ i := by
        intro d hd hb hdi
        have h1 := hall d hd hb
        rw [hdi, getD_both hui] at h1
        exact absurd h1 (by decide)
      have hq := qOp_put hoj (hap j oj hoj e huj hno) (fun cs b => hsel i oi cs b hi) (fun cs b => hsel j oj cs b hoj) hy (h.2 j (ready_mono hj e)).2
      refine qOp_mono (fun a' h3 => ih _ a' (inv.set hj hjn) ?_ (ready_mono hr (Ne.symm e)) h3.1 ?_) hq
      · intro k ok hok hki hun hk
        refine hap k ok hok hki ?_ hk
        by_cases ejk : j = k
        · rw [← ejk]; exact huj
        · rwa [getD_set_ne true ejk] at hun
      · rw [Array.setIfInBounds_comm _ _ e]; exact h3.2
theorem Head.inorder {g : Nat} {T : Act → Prop} (hsel : Region.noSelect ops = true) (hs : Region.sinkB md ops n = true) (hc : Region.chainB md ops n = true) (hn : n < ops.size) (l : List Oper) :
    ∀ (k : Nat) (s : Array Bool) (a : Act), (∀ j, j < l.length → l[j]? = ops[k + j]?) → k + l.length = n → HeadInv md ops n s → Region.lexHead md ops g l.length k s = true → wpQuiet P ops C T l a →
      Head P md ops C n (fun s' a' => Region.seqB md ops g n s' = true ∧ T a') l.length s a := by
  induction l with
  | nil =>
    intro k s a _ hk _ hB h
    obtain rfl : k = n := by simpa using hk
    exact ⟨by simpa [Region.lexHead] using hB, h⟩
  | cons o l ih =>
    intro k s a hl hk inv hB h
    have h0 : ops[k]? = some o := by have := hl 0 (by simp); simpa using this.symm
    have hlen : k + (l.length + 1) = n := hk
    simp only [List.length_cons, Region.lexHead, Bool.and_eq_true] at hB
    have hr : k ∈ Region.ready md ops s := by simpa using hB.1.1
    have hq : qOp P ops C k (wpQuiet P ops C T l) a := by unfold qOp; simp only [h0]; exact h
    obtain ⟨v, hy, hK⟩ := yieldsIn_of_qOp h0 hq
    refine Head.swap h0 (Region.noSelect_spec hsel) hs hc hn (by omega) (fun s' a' hL => seqB_ready hL.1) l.length s a inv (Region.free_spec h0 hB.1.2) hr hy ?_
    refine ih (k + 1) _ _ (fun j hj => ?_) (by omega) (inv.set hr (by omega)) hB.2 hK
    have := hl (j + 1) (by simp; omega)
    simpa [Nat.add_assoc, Nat.add_comm 1 j] using this
/-- THE LAW: n operations of the head, in the text's order; then the rest, in whatever world of the class. -/
theorem wp_quiet_tail {id : Nat} {Q : Exit → Act → World → Prop} {a : Act} {w : World} {l : List Oper} (C : World → Prop) (n : Nat) (hm : P.follows .mixedOrders = true) (hB : Region.lexTailB .any l.toArray n = true)
    (hC : C w.drew) (h : wpQuiet P l.toArray C (fun a' => ∀ w', C w' → wpList P l.toArray Q (l.drop n) a' w') (l.take n) a) : (Code.region id l.toArray true).wp P Q a w := by
  simp only [Region.lexTailB, Bool.and_eq_true, decide_eq_true_eq] at hB
  obtain ⟨⟨⟨⟨hsel, hn⟩, hs⟩, hc⟩, hlex⟩ := hB
  have hln : n < l.length := by simpa using hn
  have e1 : (l.take n).length = n := by rw [List.length_take]; omega
  have e2 : (l.drop n).length = l.toArray.size - n := by simp
  have inv : HeadInv .any l.toArray n (Array.replicate l.toArray.size false) :=
    ⟨by simp, fun j oj _ hl => absurd hl (by rw [getD_replicate_false]; decide), fun t _ ht => getD_in (by simpa using ht) (getD_replicate_false _ _)⟩
  have H := Head.inorder (md := .any) (g := l.toArray.size - n) hsel hs hc hn (l.take n) 0 _ a
    (fun j hj => by rw [e1] at hj; simp [hj]) (by rw [e1, Nat.zero_add]) inv (by rw [e1]; exact hlex) h
  refine wp_region_any hm ?_
  have hT := Head.any (Q := Q) (g := l.toArray.size - n) (fun s a' w' hw' hL => by
    have := wpAny_of_seq (md := .any) (Q' := Q) (l.drop n) n s a' w' (fun j => by simp [List.getElem?_drop]) (by rw [e2]; exact hL.1) (hL.2 w' hw')
    rwa [e2] at this) _ _ _ _ hC H
  rw [e1, show n + (l.toArray.size - n) = l.toArray.size by omega] at hT
  exact hT
end
end Lk
set_option linter.unusedVariables false
set_option linter.unusedSimpArgs false
namespace Lk
open Go Go.RowKit
/-- a byte as the model holds it -/
def bv (a : UInt8) : Int := a.toNat
theorem bv_ge (a : UInt8) : 0 ≤ bv a := by unfold bv; omega
theorem bv_lt (a : UInt8) : bv a < 256 := by unfold bv; have := a.toNat_lt; omega
@[go_sem] theorem bv_xor (a b : UInt8) : Go.bits .xor .u8 (bv a) (bv b) = bv (a ^^^ b) := bits_xor_u8 a b
@[go_sem] theorem bv_and (a b : UInt8) : Go.bits .and .u8 (bv a) (bv b) = bv (a &&& b) := bits_and_u8 a b
@[go_sem] theorem bv_or (a b : UInt8) : Go.bits .or .u8 (bv a) (bv b) = bv (a ||| b) := bits_or_u8 a b
@[go_sem] theorem bv_eq (a b : UInt8) : (bv a == bv b) = (a == b) := by
  rw [Bool.eq_iff_iff, beq_iff_eq, beq_iff_eq]; exact u8_eq a b
@[go_sem] theorem bv_ne (a b : UInt8) : (bv a != bv b) = (a != b) := by unfold bne; rw [bv_eq]
@[go_sem] theorem bv_dbl (a : UInt8) : bv a * (2 : Int) % (256 : Int) = bv (a <<< 1) := dbl_u8 a
@[go_sem] theorem bv_half (a : UInt8) : bv a / (2 : Int) = bv (a >>> 1) := half_u8 a
theorem bv_top (a : UInt8) : bv a / (128 : Int) = bv (a >>> 7) := by
  unfold bv
  rw [UInt8.toNat_shiftRight, Nat.shiftRight_eq_div_pow]
  simp
/-- a literal byte -/
theorem bv_lit (n : Nat) (h : n < 256) : (n : Int) = bv (UInt8.ofNat n) := by
  unfold bv
  rw [UInt8.toNat_ofNat', Nat.mod_eq_of_lt h]
/-- the k-th byte -/
def g8 (l : List UInt8) (k : Nat) : UInt8 := l.getD k 0
/-- bytes as cells -/
def Bs (l : List UInt8) : Array Value := (l.map fun x => Value.int .u8 (bv x)).toArray
theorem Bs_size (l : List UInt8) : (Bs l).size = l.length := by simp [Bs]
theorem Bs_get (l : List UInt8) (k : Nat) (h : k < l.length) : (Bs l)[k]? = some (.int .u8 (bv (g8 l k))) := by
  simp [Bs, h, g8]
theorem Bs_set (l : List UInt8) (k : Nat) (x : UInt8) : (Bs l).setIfInBounds k (.int .u8 (bv x)) = Bs (l.set k x) := by
  simp [Bs, List.map_set]
theorem Bs_one (l : List UInt8) : (Bs l).all (·.oneCell') = true := by
  rw [Array.all_eq_true]
  intro i hi
  simp [Bs, Value.oneCell']
/-- the block g holds these bytes, and may be written -/
def Blk (w : World) (g : Nat) (T : TypeId) (l : List UInt8) : Prop := w.heap[g]? = some (.cells (Bs l) T (0, 0))
theorem Blk.lt {w : World} {g T : Nat} {l : List UInt8} (h : Blk w g T l) : g < w.heap.size := (Array.getElem?_eq_some_iff.1 h).1
theorem Blk.cell {w : World} {g T : Nat} {l : List UInt8} (h : Blk w g T l) (k : Nat) (hk : k < l.length) : w.cell? ⟨g, k, none⟩ = some (.int .u8 (bv (g8 l k))) := by
  rw [cell_of_row w g k _ T _ h]; exact Bs_get l k hk
theorem Blk.free {w : World} {g T : Nat} {l : List UInt8} (h : Blk w g T l) (k : Nat) : w.frozen? ⟨g, k, none⟩ = false := frozen_of_row w g k _ T h
theorem Blk.set {w : World} {g T : Nat} {l : List UInt8} (h : Blk w g T l) (k : Nat) (x : UInt8) : Blk (w.setCell ⟨g, k, none⟩ (.int .u8 (bv x))) g T (l.set k x) := by
  unfold Blk
  rw [heap_setCell_same w g k _ T _ h, Bs_set]
theorem Blk.drew {w : World} {g T : Nat} {l : List UInt8} (h : Blk w g T l) : Blk w.drew g T l := h
theorem Blk.drewN {w : World} {g T : Nat} {l : List UInt8} (h : Blk w g T l) (n : Nat) : Blk (w.drewN n) g T l := h
theorem Blk.old {w w1 : World} {g T : Nat} {l : List UInt8} (h : Blk w g T l) {row : Option Nat} (hG : w.grownBy w1 row) (hne : row ≠ some g) : Blk w1 g T l := by
  unfold Blk
  rw [hG.block g h.lt (fun e => hne e.symm)]; exact h
theorem Blk.below {w w1 : World} {g T B : Nat} {l : List UInt8} (h : Blk w g T l) (hG : Below B w w1) (hne : g < B) : Blk w1 g T l := by
  unfold Blk
  rw [hG.block g hne]; exact h
/-- the world is the old one, some orders having been drawn -/
def Drawn (w w' : World) : Prop := ∃ n, w' = w.drewN n
theorem Drawn.refl (w : World) : Drawn w w := ⟨0, rfl⟩
theorem Drawn.one (w : World) : Drawn w w.drew := ⟨1, rfl⟩
theorem Drawn.drew {w w' : World} (h : Drawn w w') : Drawn w w'.drew := by
  obtain ⟨m, rfl⟩ := h
  exact ⟨m + 1, rfl⟩
theorem Drawn.step {w w' : World} (h : Drawn w w') (n : Nat) : Drawn w (w'.drewN n) := by
  obtain ⟨m, rfl⟩ := h
  exact ⟨m + n, World.drewN_drewN ..⟩
/-- the cells from ⟨g, o⟩ on hold these bytes -/
def Rd (w : World) (g o : Nat) (l : List UInt8) : Prop := ∀ k, k < l.length → w.cell? ⟨g, o + k, none⟩ = some (.int .u8 (bv (g8 l k)))
theorem Rd.cell {w : World} {g o : Nat} {l : List UInt8} (h : Rd w g o l) (k : Nat) (hk : k < l.length) : w.cell? ⟨g, o + k, none⟩ = some (.int .u8 (bv (g8 l k))) := h k hk
theorem block_of_cell {w : World} {a : Addr} {v : Value} (h : w.cell? a = some v) : a.block < w.heap.size := World.block_lt_of_cell? w a h
theorem cell_old {w w1 : World} {a : Addr} {v : Value} (h : w.cell? a = some v) {row : Option Nat} (hG : w.grownBy w1 row) (hne : row ≠ some a.block) : w1.cell? a = some v := by
  have hlt := block_of_cell h
  have := hG.block a.block hlt (fun e => hne e.symm)
  simp only [World.cell?] at h ⊢
  rw [this]; exact h
theorem Rd.old {w w1 : World} {g o : Nat} {l : List UInt8} (h : Rd w g o l) {row : Option Nat} (hG : w.grownBy w1 row) (hne : row ≠ some g) : Rd w1 g o l := fun k hk => cell_old (h k hk) hG hne
theorem grown_refl (w : World) (row : Option Nat) : w.grownBy w row := ⟨rfl, rfl, rfl, Nat.le_refl _, fun _ _ _ => rfl⟩
theorem grown_trans {w w1 w2 : World} {row : Option Nat} (h : w.grownBy w1 row) (h' : w1.grownBy w2 row) : w.grownBy w2 row :=
  ⟨h'.os.trans h.os, h'.tape.trans h.tape, h'.output.trans h.output, Nat.le_trans h.size h'.size, fun i hi hr => (h'.block i (Nat.lt_of_lt_of_le hi h.size) hr).trans (h.block i hi hr)⟩
theorem grown_drew {w w1 : World} {row : Option Nat} (h : w.grownBy w1 row) : w.grownBy w1.drew row := ⟨h.os, h.tape, h.output, h.size, h.block⟩
theorem grown_drewN {w w1 : World} {row : Option Nat} (h : w.grownBy w1 row) (n : Nat) : w.grownBy (w1.drewN n) row := ⟨h.os, h.tape, h.output, h.size, h.block⟩
theorem grown_set {w w1 : World} {g : Nat} (h : w.grownBy w1 (some g)) (k : Nat) (v : Value) : w.grownBy (w1.setCell ⟨g, k, none⟩ v) (some g) :=
  ⟨h.os, h.tape, h.output, by rw [World.size_setCell]; exact h.size, fun i hi hr => by
    rw [heap_setCell_other w1 _ i _ (by rintro rfl; exact hr rfl)]; exact h.block i hi hr⟩
theorem grown_alloc {w w1 : World} {row : Option Nat} (h : w.grownBy w1 row) (o : Obj) : w.grownBy (w1.alloc o) row :=
  ⟨h.os, h.tape, h.output, by have := h.size; show w.heap.size ≤ (w1.heap.push o).size; simp; omega, fun i hi hr => by
    rw [heap_alloc_old w1 o (Nat.lt_of_lt_of_le hi h.size)]; exact h.block i hi hr⟩
theorem Blk.alloc {w : World} {g T : Nat} {l : List UInt8} (h : Blk w g T l) (o : Obj) : Blk (w.alloc o) g T l := h.old (grown_alloc (grown_refl w none) o) (by simp)
theorem below_of_grown {w w1 : World} (h : w.grownBy w1 none) : Below w.heap.size w w1 := ⟨h.os, h.tape, h.output, h.size, fun i hi => h.block i hi (by simp)⟩
end Lk
set_option linter.unusedVariables false
set_option linter.unusedSimpArgs false
namespace Lk
open Go Go.RowKit
section
variable {P : Program} {ops : Array Oper} {rest : List Oper} {o : Oper} {a : Act} {w : World} {Q : Exit → Act → World → Prop}
/-- the block g is a row of n cells, of whatever content -/
def Row (w : World) (g : Nat) (T : TypeId) (n : Nat) : Prop := ∃ old : Array Value, w.heap[g]? = some (.cells old T (0, 0)) ∧ old.size = n
theorem Blk.row {w : World} {g T n : Nat} {l : List UInt8} (h : Blk w g T l) (hl : l.length = n) : Row w g T n := ⟨_, h, by rw [Bs_size, hl]⟩
theorem Row.lt {w : World} {g T n : Nat} (h : Row w g T n) : g < w.heap.size := by
  obtain ⟨old, h, _⟩ := h; exact (Array.getElem?_eq_some_iff.1 h).1
theorem Row.old {w w1 : World} {g T n : Nat} (h : Row w g T n) {row : Option Nat} (hG : w.grownBy w1 row) (hne : row ≠ some g) : Row w1 g T n := by
  have hlt := h.lt
  obtain ⟨c, h, hs⟩ := h
  exact ⟨c, by rw [hG.block g hlt (fun e => hne e.symm)]; exact h, hs⟩
theorem load_blk (hgd : o.guard = none) (ty : TypeId) (x : Operand) (ho : o.op = .load ty x) (g T n e : Nat) (l : List UInt8) (hx : a.eval x = .pointer (some ⟨g, 0, none⟩)) (hB : Blk w g T l) (hl : l.length = n)
    (hu : P.underlying ty = some (.array n e)) (hi : (P.info? ty).map (·.size) = some n)
    (h : wpList P ops Q rest (a.put o.dst (.agg (Bs l))) w) : wpList P ops Q (o :: rest) a w :=
  wpList_load_row hgd ty x ho g hx T (Bs l) (0, 0) _ hB hu rfl (by rw [Bs_size, hl, hi]) h
theorem store_blk (hgd : o.guard = none) (ty : TypeId) (x y : Operand) (ho : o.op = .store ty x y) (g T n : Nat) (l : List UInt8) (hx : a.eval x = .pointer (some ⟨g, 0, none⟩)) (hy : a.eval y = .agg (Bs l)) (hR : Row w g T n) (hl : l.length = n)
    (hi : (P.info? ty).map (·.size) = some n)
    (h : ∀ w1, Blk w1 g T l → w.grownBy w1 (some g) → w1.heap.size = w.heap.size → wpList P ops Q rest (a.put o.dst undef) w1) : wpList P ops Q (o :: rest) a w := by
  obtain ⟨old, hg, hs⟩ := hR
  refine wpList_store_row hgd ty x y ho g (Bs l) hx hy T old hg (by rw [Bs_size, hl, hi]) (by rw [hs, Bs_size, hl]) (Bs_one l) ?_
  refine h _ ?_ ?_ (size_setRow w g _)
  · exact setRow_heap w g old _ T _ hg
  · exact ⟨rfl, rfl, rfl, Nat.le_of_eq (size_setRow w g _).symm, fun i hi hr => setRow_other w g i _ (by rintro rfl; exact hr rfl)⟩
theorem run_box (ty : TypeId) (v : Value) (w : World) : (Instr.box ty v).run P w = .ok (.pointer (some ⟨w.heap.size, 0, none⟩)) (w.alloc (.cells v.cells ty)) := by
  simp [Instr.box, newVar, newRow, go_sem]
theorem run_alloc (ty : TypeId) (z : Value) (w : World) (hz : ∀ w : World, (zeroValue ty).run P w = .ok z w) : (Instr.alloc ty true (.tuple #[])).run P w = .ok (.pointer (some ⟨w.heap.size, 0, none⟩)) (w.alloc (.cells z.cells ty)) := by
  simp [Instr.alloc, newVar, newRow, go_sem, hz]
theorem alloc_row (hgd : o.guard = none) (ty : TypeId) (ho : o.op = .alloc ty) (z : Value) (n : Nat) (hz : ∀ w : World, (zeroValue ty).run P w = .ok z w) (hn : z.cells.size = n)
    (h : ∀ w1, Row w1 w.heap.size ty n → w1.heap[w.heap.size]? = some (.cells z.cells ty (0, 0)) → w.grownBy w1 none → w1.heap.size = w.heap.size + 1 → wpList P ops Q rest (a.put o.dst (.pointer (some ⟨w.heap.size, 0, none⟩))) w1) : wpList P ops Q (o :: rest) a w :=
  wpList_plain hgd fun _ hK => by
    unfold Oper.wp execOp
    simp only [ho, Sem.run_bind, run_alloc ty z w hz, Result.andThen_ok]
    exact hK _ _ (h _ ⟨_, heap_alloc_new w _, hn⟩ (heap_alloc_new w _) (grown_alloc (grown_refl w none) _) (by show (w.heap.push _).size = _; simp))
theorem box_blk (hgd : o.guard = none) (ty : TypeId) (x : Operand) (ho : o.op = .box ty x) (l : List UInt8) (hx : a.eval x = .agg (Bs l))
    (h : ∀ w1, Blk w1 w.heap.size ty l → w.grownBy w1 none → w1.heap.size = w.heap.size + 1 → wpList P ops Q rest (a.put o.dst (.pointer (some ⟨w.heap.size, 0, none⟩))) w1) : wpList P ops Q (o :: rest) a w :=
  wpList_plain hgd fun _ hK => by
    unfold Oper.wp execOp
    simp only [ho, Sem.run_bind, hx, run_box ty _ w, Result.andThen_ok]
    exact hK _ _ (h _ (heap_alloc_new w _) (grown_alloc (grown_refl w none) _) (by show (w.heap.push _).size = _; simp))
theorem results_blk {fn : Func} {p u : Tmp} {ty : TypeId} (h : fn.results = #[.cell p ty, .tmp u]) (tmps : Array Value) (w : World) (g T n e : Nat) (l : List UInt8)
    (hp : tmps.getD p undef = .pointer (some ⟨g, 0, none⟩)) (hg : Blk w g T l) (hl : l.length = n)
    (hu : P.underlying ty = some (.array n e)) (hi : (P.info? ty).map (·.size) = some n) :
    (results fn tmps).run P w = .ok (.tuple #[.agg (Bs l), tmps.getD u undef]) w := by
  rw [results_cell_tmp h, hp]
  have : (loadVar ty ⟨g, 0, none⟩).run P w = .ok (.agg (Bs l)) w := run_loadVar_row w g T ty (Bs l) (0, 0) _ hg hu rfl (by rw [Bs_size, hl, hi])
  simp only [asAddr, Sem.run_pure, Result.andThen, this]
theorem results_blk1 {fn : Func} {p : Tmp} {ty : TypeId} (h : fn.results = #[.cell p ty]) (tmps : Array Value) (w : World) (g T n e : Nat) (l : List UInt8)
    (hp : tmps.getD p undef = .pointer (some ⟨g, 0, none⟩)) (hg : Blk w g T l) (hl : l.length = n)
    (hu : P.underlying ty = some (.array n e)) (hi : (P.info? ty).map (·.size) = some n) :
    (results fn tmps).run P w = .ok (.agg (Bs l)) w :=
  results_cell_row h tmps w g T (Bs l) (0, 0) (.array n e) hp hg hu rfl (by rw [Bs_size, hl, hi])
end
end Lk
set_option linter.unusedVariables false
set_option linter.unusedSimpArgs false
namespace Lk
open Go Go.RowKit
/-- the number of the type byte in this program -/
def u8t : Nat := 5
def slt : Nat := 22
def Bl (l : List UInt8) : List Value := l.map fun x => Value.int .u8 (bv x)
theorem Bl_len (l : List UInt8) : (Bl l).length = l.length := by simp [Bl]
theorem Bl_app (l m : List UInt8) : Bl (l ++ m) = Bl l ++ Bl m := by simp [Bl]
theorem Bl_get (l : List UInt8) (j : Nat) (u : Value) (h : (Bl l)[j]? = some u) : j < l.length ∧ u = .int .u8 (bv (g8 l j)) := by
  simp only [Bl, List.getElem?_map, Option.map_eq_some_iff] at h
  obtain ⟨x, hx, rfl⟩ := h
  obtain ⟨hj, rfl⟩ := List.getElem?_eq_some_iff.1 hx
  exact ⟨hj, by simp [g8, hj]⟩
theorem Bl_get' (l : List UInt8) (j : Nat) (h : j < l.length) : (Bl l)[j]? = some (.int .u8 (bv (g8 l j))) := by
  simp [Bl, g8, h]
theorem Bl_one (l : List UInt8) : ∀ u ∈ Bl l, u.oneCell' = true := by
  intro u hu
  simp only [Bl, List.mem_map] at hu
  obtain ⟨x, _, rfl⟩ := hu
  rfl
/-- the value is a slice that reads as these bytes -/
def SlB (w : World) (v : Value) (l : List UInt8) : Prop :=
  ∃ A c, v = .slice A l.length c ∧ (A = none → c = 0) ∧ l.length ≤ c ∧ c ≤ maxLen ∧ (0 < c → ∃ g o, A = some ⟨g, o, none⟩ ∧ Rd w g o l)
/-- the value is a slice of the call's own (in blocks from base on) that holds these bytes -/
def Own (w : World) (base : Nat) (v : Value) (l : List UInt8) : Prop := w.ownsRow base u8t 1 v l.length (Bl l)
theorem Own.slB {w : World} {base : Nat} {v : Value} {l : List UInt8} (h : Own w base v l) : SlB w v l := by
  rcases h.2 with ⟨rfl, h0⟩ | ⟨g, cap, cur, rfl, hb, hg, h1, h2, h3, h4⟩
  · have : l = [] := List.eq_nil_of_length_eq_zero h0
    subst this
    exact ⟨none, 0, rfl, fun _ => rfl, Nat.le_refl _, Nat.zero_le _, fun h => by omega⟩
  · refine ⟨_, cap, rfl, fun h => (by cases h), h1, h2, fun _ => ⟨g, 0, rfl, fun k hk => ?_⟩⟩
    rw [Nat.zero_add]
    have := World.ownsRow.cellAt (h := h) k (by omega)
    rw [this]
    exact Bl_get' l k hk
theorem Own.lt {w : World} {base : Nat} {v : Value} {l : List UInt8} (h : Own w base v l) : ∀ k, v.ownBlock = some k → base ≤ k ∧ k < w.heap.size := World.ownsRow.lt h
theorem Own.kept {w w' : World} {base : Nat} {v : Value} {l : List UInt8} {row : Option Nat} (h : Own w base v l) (hg : w.grownBy w' row) (hne : v.ownBlock = none ∨ v.ownBlock ≠ row) : Own w' base v l := World.ownsRow.kept h hg hne
theorem Own.alloc {w : World} {base : Nat} {v : Value} {l : List UInt8} (h : Own w base v l) (o : Obj) : Own (w.alloc o) base v l := World.ownsRow.alloc h o
theorem Own.drew {w : World} {base : Nat} {v : Value} {l : List UInt8} (h : Own w base v l) : Own w.drew base v l := h
theorem Own.drewN {w : World} {base : Nat} {v : Value} {l : List UInt8} (h : Own w base v l) (n : Nat) : Own (w.drewN n) base v l := h
theorem Own.lower {w : World} {base base' : Nat} {v : Value} {l : List UInt8} (h : Own w base v l) (hb : base' ≤ base) : Own w base' v l :=
  ⟨h.1, h.2.imp id fun ⟨g, cap, cur, e, hg, r⟩ => ⟨g, cap, cur, e, Nat.le_trans hb hg, r⟩⟩
theorem Own.raise {w : World} {base base' : Nat} {v : Value} {l : List UInt8} (h : Own w base v l) (hb : ∀ k, v.ownBlock = some k → base' ≤ k) : Own w base' v l :=
  ⟨h.1, h.2.imp id fun ⟨g, cap, cur, e, hg, r⟩ => ⟨g, cap, cur, e, hb g (by rw [e]; rfl), r⟩⟩
/-- what is owned and not empty -/
theorem Own.form {w : World} {base : Nat} {v : Value} {l : List UInt8} (h : Own w base v l) (hl : 0 < l.length) : ∃ g cap, v = .slice (some ⟨g, 0, none⟩) l.length cap ∧ base ≤ g ∧ g < w.heap.size ∧ Rd w g 0 l ∧ (∀ k, w.frozen? ⟨g, k, none⟩ = false) ∧ l.length ≤ cap := by
  obtain ⟨g, cap, hv, hb, hg⟩ := World.ownsRow.form h hl
  subst hv
  refine ⟨g, cap, rfl, hb, hg, fun k hk => ?_, fun k => World.ownsRow.frozenAt (h := h) k, ?_⟩
  · rw [Nat.zero_add]
    have := World.ownsRow.cellAt (h := h) k (by omega)
    rw [this]
    exact Bl_get' l k hk
  · rcases h.2 with ⟨h0, _⟩ | ⟨g', cap', cur, e, _, _, h1, _⟩
    · cases h0
    · cases e; exact h1
theorem Own.stored {w : World} {base g cap : Nat} {l : List UInt8} (h : Own w base (.slice (some ⟨g, 0, none⟩) l.length cap) l) (k : Nat) (x : UInt8) : Own (w.setCell ⟨g, k, none⟩ (.int .u8 (bv x))) base (.slice (some ⟨g, 0, none⟩) l.length cap) (l.set k x) := by
  have := World.ownsRow.stored (h := h) k (.int .u8 (bv x))
  unfold Own
  rw [List.length_set]
  rw [show Bl (l.set k x) = (Bl l).set k (.int .u8 (bv x)) by simp [Bl, List.map_set]]
  exact this.1
theorem Own.ne_blk {w : World} {base g T : Nat} {v : Value} {l m : List UInt8} (h : Own w base v l) (hB : Blk w g T m) (hT : T ≠ u8t) : v.ownBlock ≠ some g := by
  intro e
  rcases h.2 with ⟨rfl, _⟩ | ⟨g', cap, cur, rfl, hb, hg, _⟩
  · simp [Value.ownBlock] at e
  · have : g' = g := by simpa [Value.ownBlock] using e
    subst this
    unfold Blk at hB
    rw [hg] at hB
    injection hB with hB
    injection hB with _ ht
    exact hT ht.symm
theorem SlB.old {w w1 : World} {v : Value} {l : List UInt8} (h : SlB w v l) {row : Option Nat} (hG : w.grownBy w1 row) (hne : v.ownBlock = none ∨ v.ownBlock ≠ row) : SlB w1 v l := by
  obtain ⟨A, c, rfl, h1, h2, h3, h4⟩ := h
  refine ⟨A, c, rfl, h1, h2, h3, fun hc => ?_⟩
  obtain ⟨g, o, rfl, hr⟩ := h4 hc
  exact ⟨g, o, rfl, hr.old hG (by
    rcases hne with h | h
    · simp [Value.ownBlock] at h
    · exact fun e => h (by rw [e]; rfl))⟩
theorem SlB.alloc {w : World} {v : Value} {l : List UInt8} (h : SlB w v l) (o : Obj) : SlB (w.alloc o) v l := h.old (grown_alloc (grown_refl _ none) o) (Classical.em _)
theorem own_nil (w : World) (base : Nat) : Own w base (.slice none 0 0) [] := ⟨rfl, .inl ⟨rfl, rfl⟩⟩
/-- writes to one block that is new leave the old ones -/
theorem below_new {w w1 w2 : World} {B g : Nat} (h : Below B w w1) (hB : B ≤ w1.heap.size) (hG : w1.grownBy w2 (some g)) (hg : B ≤ g) : Below B w w2 :=
  ⟨hG.os.trans h.os, hG.tape.trans h.tape, hG.output.trans h.output, Nat.le_trans h.size hG.size, fun i hi => by
    rw [hG.block i (by omega) (by simp; omega)]; exact h.block i hi⟩
theorem below_none {w w1 w2 : World} {B : Nat} (h : Below B w w1) (hB : B ≤ w1.heap.size) (hG : w1.grownBy w2 none) : Below B w w2 :=
  ⟨hG.os.trans h.os, hG.tape.trans h.tape, hG.output.trans h.output, Nat.le_trans h.size hG.size, fun i hi => by
    rw [hG.block i (by omega) (by simp)]; exact h.block i hi⟩
theorem below_more {w w1 w2 : World} {B B' : Nat} (h : Below B w w1) (h' : Below B' w1 w2) (hB : B ≤ B') : Below B w w2 :=
  ⟨h'.os.trans h.os, h'.tape.trans h.tape, h'.output.trans h.output, Nat.le_trans h.size h'.size, fun i hi => by
    rw [h'.block i (by omega)]; exact h.block i hi⟩
theorem SlB.drewN {w : World} {v : Value} {l : List UInt8} (h : SlB w v l) (n : Nat) : SlB (w.drewN n) v l := h
theorem SlB.lt {w : World} {v : Value} {l : List UInt8} (h : SlB w v l) (hl : 0 < l.length) : ∀ k, v.ownBlock = some k → k < w.heap.size := by
  obtain ⟨A, c, rfl, h1, h2, h3, h4⟩ := h
  intro k hk
  obtain ⟨g, o, rfl, hr⟩ := h4 (by omega)
  have : g = k := by simpa [Value.ownBlock] using hk
  subst this
  exact block_of_cell (hr 0 hl)
/-- a slice that is read stays so where old memory stays -/
theorem SlB.below {w w1 : World} {v : Value} {l : List UInt8} (h : SlB w v l) (hG : Below w.heap.size w w1) : SlB w1 v l := by
  obtain ⟨A, c, rfl, h1, h2, h3, h4⟩ := h
  refine ⟨A, c, rfl, h1, h2, h3, fun hc => ?_⟩
  obtain ⟨g, o, rfl, hr⟩ := h4 hc
  refine ⟨g, o, rfl, fun k hk => ?_⟩
  have := hr k hk
  rw [hG.cell (block_of_cell this)]
  exact this
theorem own_lit0 (w : World) (base : Nat) (hb : base ≤ w.heap.size) : Own (w.alloc (.cells #[] u8t)) base (.slice (some ⟨w.heap.size, 0, none⟩) 0 0) [] :=
  ⟨rfl, .inr ⟨w.heap.size, 0, #[], rfl, hb, heap_alloc_new w _, Nat.le_refl _, Nat.zero_le _, rfl, rfl⟩⟩
section
variable {P : Program} {ops : Array Oper} {rest : List Oper} {o : Oper} {a : Act} {w : World} {Q : Exit → Act → World → Prop}
theorem append_b (hu : P.underlying slt = some (.slice u8t)) (hinfo : (P.info? u8t).map (fun i => (i.zero, i.size, i.bytes)) = some (some (.int .u8 0), 1, 1)) (hgd : o.guard = none) (s x : Operand)
    (ho : o.op = .call { callee := .builtin .append, args := #[s, x], argTypes := #[slt, slt] }) (base : Nat) (v : Value) (l : List UInt8) (hs : a.eval s = v) (hown : Own w base v l)
    (v2 : Value) (m : List UInt8) (hx : a.eval x = v2) (hm : SlB w v2 m) (hlen : l.length + m.length ≤ 140737488355328) (hbase : base ≤ w.heap.size)
    (h : ∀ v' w', Own w' base v' (l ++ m) → w.grownBy w' v.ownBlock → wpList P ops Q rest (a.put o.dst v') w') : wpList P ops Q (o :: rest) a w := by
  obtain ⟨i, hi, hz, h1, h2⟩ := info_parts hinfo
  obtain ⟨A, c, rfl, n1, n2, n3, n4⟩ := hm
  cases A with
  | none =>
    obtain rfl := n1 rfl
    have hm0 : m = [] := List.eq_nil_of_length_eq_zero (by omega)
    subst hm0
    refine wpList_append_own_none hgd s x slt ho base u8t i 1 hu hi v l.length (Bl l) hs hown hx ?_
    rw [List.append_nil] at h
    exact h v w hown (World.grownBy.refl _ _)
  | some ad =>
    have hnews : ∀ j u, (Bl m)[j]? = some u → w.cell? (ad.add j) = some u := by
      intro j u hj
      obtain ⟨hjl, rfl⟩ := Bl_get m j u hj
      obtain ⟨g, o', e, hr⟩ := n4 (by omega)
      cases e
      have : (⟨g, o', none⟩ : Addr).add j = ⟨g, o' + j, none⟩ := by unfold Addr.add; split <;> simp_all
      rw [this]
      exact hr j hjl
    refine wpList_append_own w hgd s x slt ho base u8t i (.int .u8 0) 1 1 hu hi hz h1 h2 rfl (by decide) v l.length (Bl l) hs hown ad m.length c (Bl m) hx (by rw [Bl_len, Nat.mul_one]) hnews (Bl_one m) (by unfold maxLen; omega) (by omega) hbase ?_
    intro v' w' h3 h4 _
    refine h v' w' ?_ h4
    unfold Own
    rw [List.length_append, Bl_app]
    exact h3
/-- the same at a step of a region that leaves its order open: one byte that has just been laid is appended -/
theorem step_append_b {E : Prop} {K : Act → World → Prop} (hu : P.underlying slt = some (.slice u8t)) (hinfo : (P.info? u8t).map (fun i => (i.zero, i.size, i.bytes)) = some (some (.int .u8 0), 1, 1)) (hgd : o.guard = none) (s x : Operand)
    (ho : o.op = .call { callee := .builtin .append, args := #[s, x], argTypes := #[slt, slt] }) (base : Nat) (v : Value) (l : List UInt8) (n : Nat) (hn : l.length = n) (hs : a.eval s = v) (hown : Own w base v l)
    (g2 : Nat) (y : UInt8) (hx : a.eval x = .slice (some ⟨g2, 0, none⟩) 1 1) (hm : w.cell? ⟨g2, 0, none⟩ = some (.int .u8 (bv y))) (hlen : n + 1 ≤ 140737488355328) (hbase : base ≤ w.heap.size)
    (h : ∀ g cap w', Own w' base (.slice (some ⟨g, 0, none⟩) (n + 1) cap) (l ++ [y]) → w.grownBy w' v.ownBlock → (v.ownBlock = some g ∨ g = w.heap.size) → K (a.put o.dst (.slice (some ⟨g, 0, none⟩) (n + 1) cap)) w') :
    if Region.wanted o (yielded ops a.tmps) = true then Oper.wp P o a w K Q else E := by
  obtain ⟨i, hi, hz, h1, h2⟩ := info_parts hinfo
  subst hn
  refine step_append_lies w hgd s x slt ho base u8t i (.int .u8 0) 1 1 hu hi hz h1 h2 rfl (by decide) v l.length (Bl l) hs hown ⟨g2, 0, none⟩ 1 1 (Bl [y]) hx rfl ?_ (Bl_one _) (by decide) (by unfold maxLen; omega) (by omega) hbase w.heap.size rfl ?_
  · intro j u hj
    obtain ⟨hjl, rfl⟩ := Bl_get [y] j u hj
    obtain rfl : j = 0 := by simp at hjl; omega
    exact hm
  · intro g cap w' h3 h4 h5 _
    refine h g cap w' ?_ h4 h5
    unfold Own
    rw [Bl_app, List.length_append]
    exact h3
theorem rangeAt_rd {g o : Nat} {l : List UInt8} (h : Rd w g o l) : w.rangeAt g o (Bl l) := by
  intro j v hj
  obtain ⟨hjl, rfl⟩ := Bl_get l j v hj
  exact h j hjl
/-- a whole array read out of a row's midst -/
theorem load_rd (hgd : o.guard = none) (ty : TypeId) (x : Operand) (ho : o.op = .load ty x) (g k n e : Nat) (l : List UInt8) (hx : a.eval x = .pointer (some ⟨g, k, none⟩)) (hB : Rd w g k l) (hl : l.length = n)
    (hu : P.underlying ty = some (.array n e)) (hi : (P.info? ty).map (·.size) = some n)
    (h : wpList P ops Q rest (a.put o.dst (.agg (Bs l))) w) : wpList P ops Q (o :: rest) a w :=
  wpList_load_mid hgd ty x ho g k hx (Bl l) (.array n e) (rangeAt_rd hB) hu rfl (by rw [Bl_len, hl, hi]) h
/-- a slice as an array, long enough -/
theorem to_array (hgd : o.guard = none) (ty : TypeId) (x : Operand) (ho : o.op = .sliceToArrayPointer ty x) (A : Option Addr) (n m c e : Nat) (hx : a.eval x = .slice A m c) (hm : n ≤ m)
    (hu : P.underlying ty = some (.array n e))
    (h : wpList P ops Q rest (a.put o.dst (.pointer A)) w) : wpList P ops Q (o :: rest) a w :=
  wpList_plain hgd fun _ hK => by
    unfold Oper.wp execOp
    simp only [ho, hx, Sem.run_bind]
    have : (Instr.arrayAt ty (.slice A m c)).run P w = .ok (.pointer A) w := by
      simp [Instr.arrayAt, run_underlying hu, Nat.not_lt.2 hm]
    rw [this]
    exact hK _ _ h
end
end Lk
namespace Go.Proofs.YtbbfjlnkhenbiaaDoor
open Lk
theorem hu_sl : Tryd.prog.underlying slt = some (.slice u8t) := by kernel_rfl
theorem hu_u8 : (Tryd.prog.info? u8t).map (fun i => (i.zero, i.size, i.bytes)) = some (some (.int .u8 0), 1, 1) := by kernel_rfl
end Go.Proofs.YtbbfjlnkhenbiaaDoor
set_option linter.unusedVariables false
set_option linter.unusedSimpArgs false
namespace Lk
open Go
/-- a number as the model holds it -/
def nv (n : Nat) : Int := n
/-- the text tells these numbers, two digits each -/
def Tells (s : ByteArray) (tab : List Nat) : Prop :=
  s.size = 2 * tab.length ∧ ∀ k, k < tab.length → ∀ j, j = 2 * k → (∀ h, (s[j]'h).toNat = 48 + tab.getD k 0 / 10) ∧ (∀ h, (s[j + 1]'h).toNat = 48 + tab.getD k 0 % 10) ∧ tab.getD k 0 < 100
/-- a bit of a number, the first one being bit 1 of so many -/
def bitOf (x size n : Nat) : Nat := x / 2 ^ (size - n) % 2
def permTo (x size : Nat) (tab : List Nat) (k : Nat) : Nat := (tab.take k).foldl (fun o n => 2 * o + bitOf x size n) 0
def perm (x size : Nat) (tab : List Nat) : Nat := permTo x size tab tab.length
theorem permTo_succ (x size : Nat) (tab : List Nat) (k : Nat) (h : k < tab.length) : permTo x size tab (k + 1) = 2 * permTo x size tab k + bitOf x size (tab.getD k 0) := by
  unfold permTo
  rw [List.take_succ_eq_append_getElem h, List.foldl_append]
  simp [h]
theorem permTo_lt (x size : Nat) (tab : List Nat) (k : Nat) : permTo x size tab k < 2 ^ k := by
  induction k with
  | zero => simp [permTo]
  | succ k ih =>
    by_cases h : k < tab.length
    · rw [permTo_succ _ _ _ _ h]
      have : bitOf x size (tab.getD k 0) < 2 := Nat.mod_lt _ (by decide)
      rw [Nat.pow_succ]
      omega
    · have e : permTo x size tab (k + 1) = permTo x size tab k := by
        unfold permTo
        rw [List.take_of_length_le (by omega), List.take_of_length_le (by omega)]
      rw [e, Nat.pow_succ]
      omega
theorem or_bit (o b : Nat) (h : b < 2) : 2 * o ||| b = 2 * o + b := by
  have := Nat.two_pow_add_eq_or_of_lt (i := 1) (by simpa using h) o
  simpa using this.symm
theorem perm_step (o x size a : Nat) (ho : o < 2 ^ 63) (hx : x < 2 ^ 64) :
    Go.bits .or .u64 (Go.IntKind.u64.wrap (nv o * (2 : Int))) (Go.bits .and .u64 (nv x / (2 : Int) ^ (size - (a / 10 * 10 + a % 10))) 1) = nv (2 * o + bitOf x size a) := by
  unfold nv bitOf
  have e1 : ((o : Int) * (2 : Int)) = ((2 * o : Nat) : Int) := by omega
  have e2 : a / 10 * 10 + a % 10 = a := by omega
  have hd : x / 2 ^ (size - a) < 2 ^ 64 := Nat.lt_of_le_of_lt (Nat.div_le_self _ _) hx
  have e3 : ((x : Int) / (2 : Int) ^ (size - a)) = ((x / 2 ^ (size - a) : Nat) : Int) := by simp
  have e4 : (1 : Int) = ((1 : Nat) : Int) := rfl
  rw [e1, e2, e3, e4, wrap_u64 _ (by omega), bits_and_u64 _ _ hd (by decide), bits_or_u64 _ _ (by omega) (by rw [Nat.and_one_is_mod]; omega), Nat.and_one_is_mod, or_bit _ _ (Nat.mod_lt _ (by decide))]
/-- a table of 64 bits undone, for its first k numbers -/
def unpTo (x : Nat) (tab : List Nat) : Nat → Nat
  | 0 => 0
  | k + 1 => unpTo x tab k ||| (x / 2 ^ (63 - k) % 2) * 2 ^ (64 - tab.getD k 0)
def unperm (x : Nat) (tab : List Nat) : Nat := unpTo x tab tab.length
theorem bit_shl_lt (b n : Nat) (hb : b < 2) (hn : n < 64) : b * 2 ^ n < 2 ^ 64 := by
  have h1 : b * 2 ^ n ≤ 1 * 2 ^ n := Nat.mul_le_mul_right _ (by omega)
  have h2 : 2 ^ n ≤ 2 ^ 63 := Nat.pow_le_pow_right (by decide) (by omega)
  omega
theorem unpTo_lt (x : Nat) (tab : List Nat) (k : Nat) (h : ∀ j, j < k → 1 ≤ tab.getD j 0) : unpTo x tab k < 2 ^ 64 := by
  induction k with
  | zero => exact (by decide : (0 : Nat) < 2 ^ 64)
  | succ k ih =>
    have h0 := h k (by omega)
    exact Nat.or_lt_two_pow (ih fun j hj => h j (by omega)) (bit_shl_lt _ _ (Nat.mod_lt _ (by decide)) (by omega))
theorem unp_step (o x k a : Nat) (ho : o < 2 ^ 64) (hx : x < 2 ^ 64) (hk : k ≤ 63) (h1 : 1 ≤ a) (h2 : a ≤ 64) :
    Go.bits .or .u64 (nv o) (Go.IntKind.u64.wrap (Go.bits .and .u64 (nv x / (2 : Int) ^ (63 - k)) 1 * (2 : Int) ^ (64 - (a / 10 * 10 + a % 10)))) = nv (o ||| (x / 2 ^ (63 - k) % 2) * 2 ^ (64 - a)) := by
  unfold nv
  have e2 : a / 10 * 10 + a % 10 = a := by omega
  have hd : x / 2 ^ (63 - k) < 2 ^ 64 := Nat.lt_of_le_of_lt (Nat.div_le_self _ _) hx
  have e3 : ((x : Int) / (2 : Int) ^ (63 - k)) = ((x / 2 ^ (63 - k) : Nat) : Int) := by simp
  have e4 : (1 : Int) = ((1 : Nat) : Int) := rfl
  have hb := bit_shl_lt (x / 2 ^ (63 - k) % 2) (64 - a) (Nat.mod_lt _ (by decide)) (by omega)
  have e5 : (((x / 2 ^ (63 - k) % 2 : Nat) : Int) * (2 : Int) ^ (64 - a)) = (((x / 2 ^ (63 - k) % 2) * 2 ^ (64 - a) : Nat) : Int) := by simp
  rw [e2, e3, e4, bits_and_u64 _ _ hd (by decide), Nat.and_one_is_mod, e5, wrap_u64 _ hb, bits_or_u64 _ _ ho hb]
end Lk
namespace Go.Proofs.YtbbfjlnkhenbiaaDoor
open Go.RowKit Lk
set_option maxHeartbeats 800000 in
set_option maxRecDepth 100000 in
theorem permute_any (x size : Nat) (s : ByteArray) (tab : List Nat) (w : World) (hx : x < 2 ^ 64) (hs : Tells s tab) (hl : tab.length ≤ 64) (hn : ∀ k, k < tab.length → tab.getD k 0 ≤ size) (hsz : size ≤ 64) :
    Calls Tryd.prog 72 #[.int .u64 (nv x), .int .i64 size, .string s] w fun e w' => e = .returned (.int .u64 (nv (perm x size tab))) ∧ Drawn w w' := by
  have hss : s.size = 2 * tab.length := hs.1
  have HS := Lib.hid hs
  have HN := Lib.hid hn
  clear hs hn
  obtain ⟨m, hm⟩ : ∃ m, tab.length = m := ⟨_, rfl⟩
  rw [hm] at hss hl
  have HM := Lib.hid hm
  have hs2 : s.size ≤ 128 := by omega
  have HSS := Lib.hid hss
  clear hm
  go_enter Tryd.func72, Tryd.ntmps72
  go_wp2
  go_loopw [7, 8] (fun o i wr => ∃ k : Nat, k ≤ m ∧ i = .int .i64 (2 * k : Nat) ∧ o = .int .u64 (nv (permTo x size tab k)) ∧ Drawn w wr) (fun _ i _ => 2 * m - (intOf i).toNat)
  case atStart => exact ⟨0, by omega, rfl, rfl, Drawn.refl _⟩
  case round =>
    obtain ⟨k, hk, rfl, rfl, hD⟩ := hrel
    have HD := Lib.hid hD
    by_cases hlt : k < m
    · have hlt' : k < tab.length := by rw [HM.out]; exact hlt
      obtain ⟨i, hi⟩ : ∃ i, 2 * k = i := ⟨_, rfl⟩
      obtain ⟨g1, g2, g3⟩ := HS.out.2 k hlt' i hi.symm
      simp only [hi]
      have h1 : i < s.size := by omega
      have h2 : i + 1 < s.size := by omega
      have HI := Lib.hid hi
      have him : i + 2 ≤ 128 := by omega
      have h1i : (i : Int) < (s.size : Int) := by omega
      have h2i : (i : Int) + 1 < (s.size : Int) := by omega
      obtain ⟨a, ha⟩ : ∃ a, tab.getD k 0 = a := ⟨_, rfl⟩
      rw [ha] at g1 g2 g3
      have ha2 : a ≤ size := by rw [← ha]; exact HN.out k hlt'
      obtain ⟨o, ho⟩ : ∃ o, permTo x size tab k = o := ⟨_, rfl⟩
      have HO := Lib.hid ho
      have HA := Lib.hid ha
      rw [ho]
      have HLT := Lib.hid hlt
      clear hD ha ho hlt' hss hi hlt hk
      go_wp2
      go_region
      go_wp2
      go_roundw
      case rel =>
        have hkm : k < m := HLT.out
        refine ⟨k + 1, by omega, by have := HI.out; congr 1; omega, ?_, HD.out.drew⟩
        have hlt' : k < tab.length := by have := HM.out; have := HI.out; omega
        rw [permTo_succ _ _ _ _ hlt', HO.out, HA.out]
        have hob := permTo_lt x size tab k
        rw [HO.out] at hob
        have : o < 2 ^ 63 := Nat.lt_of_lt_of_le hob (Nat.pow_le_pow_right (by decide) (by have := HM.out; omega))
        exact congrArg (Value.int .u64) (perm_step o x size a this hx)
      case measure => have := HI.out; have : k < m := HLT.out; simp [intOf]; omega
    · have HE := Lib.hid (show k = m by omega)
      have HD := Lib.hid hD
      have hge : ¬ (2 * k < s.size) := by omega
      clear hD hss
      go_wp2
      go_ret
      refine ⟨?_, HD.out⟩
      have : perm x size tab = permTo x size tab k := by unfold perm; rw [HE.out, HM.out]
      rw [this]; rfl
set_option maxHeartbeats 800000 in
set_option maxRecDepth 100000 in
theorem unpermute_any (x : Nat) (s : ByteArray) (tab : List Nat) (w : World) (hx : x < 2 ^ 64) (hs : Tells s tab) (hl : tab.length ≤ 64) (hn : ∀ k, k < tab.length → 1 ≤ tab.getD k 0 ∧ tab.getD k 0 ≤ 64) :
    Calls Tryd.prog 76 #[.int .u64 (nv x), .string s] w fun e w' => e = .returned (.int .u64 (nv (unperm x tab))) ∧ Drawn w w' := by
  have hss : s.size = 2 * tab.length := hs.1
  have HS := Lib.hid hs
  have HN := Lib.hid hn
  clear hs hn
  obtain ⟨m, hm⟩ : ∃ m, tab.length = m := ⟨_, rfl⟩
  rw [hm] at hss hl
  have HM := Lib.hid hm
  have hs2 : s.size ≤ 128 := by omega
  have HSS := Lib.hid hss
  clear hm
  go_enter Tryd.func76, Tryd.ntmps76
  go_wp2
  go_loopw [5, 6] (fun o i wr => ∃ k : Nat, k ≤ m ∧ i = .int .i64 (2 * k : Nat) ∧ o = .int .u64 (nv (unpTo x tab k)) ∧ Drawn w wr) (fun _ i _ => 2 * m - (intOf i).toNat)
  case atStart => exact ⟨0, by omega, rfl, rfl, Drawn.refl _⟩
  case round =>
    obtain ⟨k, hk, rfl, rfl, hD⟩ := hrel
    have HD := Lib.hid hD
    by_cases hlt : k < m
    · have hlt' : k < tab.length := by rw [HM.out]; exact hlt
      obtain ⟨i, hi⟩ : ∃ i, 2 * k = i := ⟨_, rfl⟩
      obtain ⟨g1, g2, g3⟩ := HS.out.2 k hlt' i hi.symm
      simp only [hi]
      have h1 : i < s.size := by omega
      have h2 : i + 1 < s.size := by omega
      have HI := Lib.hid hi
      have him : i + 2 ≤ 128 := by omega
      have h1i : (i : Int) < (s.size : Int) := by omega
      have h2i : (i : Int) + 1 < (s.size : Int) := by omega
      obtain ⟨a, ha⟩ : ∃ a, tab.getD k 0 = a := ⟨_, rfl⟩
      rw [ha] at g1 g2 g3
      have ha2 : 1 ≤ a ∧ a ≤ 64 := by rw [← ha]; exact HN.out k hlt'
      obtain ⟨ha3, ha4⟩ := ha2
      have hq : (i : Int) / 2 = (k : Int) := by omega
      have hk63 : k ≤ 63 := by omega
      obtain ⟨o, ho⟩ : ∃ o, unpTo x tab k = o := ⟨_, rfl⟩
      have HO := Lib.hid ho
      have HA := Lib.hid ha
      rw [ho]
      have HLT := Lib.hid hlt
      clear hD ha ho hlt' hss hi hlt hk
      go_wp2
      go_region
      go_wp2
      go_roundw
      case rel =>
        have hkm : k < m := HLT.out
        refine ⟨k + 1, by omega, by have := HI.out; congr 1; omega, ?_, HD.out.drew⟩
        have hob := unpTo_lt x tab k (fun j hj => (HN.out j (by have := HM.out; omega)).1)
        rw [HO.out] at hob
        simp only [unpTo]
        rw [HO.out, HA.out]
        exact congrArg (Value.int .u64) (unp_step o x k a hob hx hk63 ha3 ha4)
      case measure => have := HI.out; have : k < m := HLT.out; simp [intOf]; omega
    · have HE := Lib.hid (show k = m by omega)
      have HD := Lib.hid hD
      have hge : ¬ (2 * k < s.size) := by omega
      clear hD hss
      go_wp2
      go_ret
      refine ⟨?_, HD.out⟩
      have : unperm x tab = unpTo x tab k := by unfold unperm; rw [HE.out, HM.out]
      rw [this]; rfl
end Go.Proofs.YtbbfjlnkhenbiaaDoor
set_option linter.unusedVariables false
set_option linter.unusedSimpArgs false
namespace Lk
open Go
/-- the number of the first k bytes -/
def numTo (b : List UInt8) : Nat → Nat
  | 0 => 0
  | k + 1 => 256 * numTo b k + (g8 b k).toNat
def num (b : List UInt8) : Nat := numTo b 8
theorem numTo_lt (b : List UInt8) (k : Nat) : numTo b k < 256 ^ k := by
  induction k with
  | zero => exact (by decide : (0 : Nat) < 256 ^ 0)
  | succ k ih =>
    have := (g8 b k).toNat_lt
    simp only [numTo]
    rw [Nat.pow_succ]
    omega
theorem num_lt (b : List UInt8) : num b < 2 ^ 64 := numTo_lt b 8
theorem num_step (o k : Nat) (c : UInt8) (ho : o < 256 ^ k) (hk : k < 8) :
    Go.bits .or .u64 (Go.IntKind.u64.wrap (nv o * (256 : Int))) (Go.IntKind.u64.wrap (bv c)) = nv (256 * o + c.toNat) := by
  unfold nv bv
  have h1 : 256 ^ k ≤ 256 ^ 7 := Nat.pow_le_pow_right (by decide) (by omega)
  have h2 := c.toNat_lt
  have e1 : ((o : Int) * (256 : Int)) = ((256 * o : Nat) : Int) := by omega
  have e2 : 256 * o ||| c.toNat = 256 * o + c.toNat := by
    have := Nat.two_pow_add_eq_or_of_lt (i := 8) (by simpa using h2) o
    simpa using this.symm
  rw [e1, wrap_u64 _ (by omega), wrap_u64 _ (by omega), bits_or_u64 _ _ (by omega) (by omega), e2]
/-- a number's eight bytes -/
def pbytes (x : Nat) : List UInt8 := (List.range 8).map fun i => UInt8.ofNat (x / 2 ^ (56 - 8 * i))
theorem pbytes_len (x : Nat) : (pbytes x).length = 8 := by simp [pbytes]
def bytesTo (x k : Nat) : List UInt8 := (List.range 8).map fun i => if i < k then UInt8.ofNat (x / 2 ^ (56 - 8 * i)) else 0
theorem bytesTo_len (x k : Nat) : (bytesTo x k).length = 8 := by simp [bytesTo]
theorem bytesTo_eight (x : Nat) : bytesTo x 8 = pbytes x := by
  unfold bytesTo pbytes
  apply List.map_congr_left
  intro i hi
  rw [if_pos (by simpa using hi)]
theorem bytesTo_set (x k : Nat) (hk : k < 8) : (bytesTo x k).set k (UInt8.ofNat (x / 2 ^ (56 - 8 * k))) = bytesTo x (k + 1) := by
  apply List.ext_getElem
  · simp [bytesTo]
  · intro i h1 h2
    rw [List.getElem_set]
    simp only [bytesTo, List.getElem_map, List.getElem_range]
    by_cases h : k = i
    · subst h; rw [if_pos rfl, if_pos (by omega)]
    · rw [if_neg h]
      by_cases h3 : i < k
      · rw [if_pos h3, if_pos (by omega)]
      · rw [if_neg h3, if_neg (by omega)]
theorem byte_of (x n : Nat) (hx : x < 2 ^ 64) : Go.IntKind.u8.wrap (nv x / (2 : Int) ^ n) = bv (UInt8.ofNat (x / 2 ^ n)) := by
  unfold nv bv
  rw [Go.IntKind.wrap_u8, UInt8.toNat_ofNat']
  have e3 : ((x : Int) / (2 : Int) ^ n) = ((x / 2 ^ n : Nat) : Int) := by simp
  rw [e3]
  omega
/-- 28 bits turned to the left -/
def rot28 (x n : Nat) : Nat := ((x * 2 ^ n) ||| (x / 2 ^ (28 - n))) &&& 268435455
theorem rot28_lt (x n : Nat) : rot28 x n < 2 ^ 28 := Nat.and_lt_two_pow _ (by decide)
theorem turn_form (x n d : Nat) (hx : x < 2 ^ 28) (hn : n ≤ 2) (hd : 2 ^ (28 - n) = d) :
    Go.bits .and .u64 (Go.bits .or .u64 (Go.IntKind.u64.wrap (nv x * ((2 ^ n : Nat) : Int))) (nv x / (d : Int))) 268435455 = nv (rot28 x n) := by
  unfold nv rot28
  subst hd
  have h2 : 2 ^ n ≤ 2 ^ 2 := Nat.pow_le_pow_right (by decide) hn
  have h3 : x * 2 ^ n ≤ x * 4 := Nat.mul_le_mul_left _ (by omega)
  have h4 : x / 2 ^ (28 - n) ≤ x := Nat.div_le_self _ _
  have e1 : ((x : Int) * ((2 ^ n : Nat) : Int)) = ((x * 2 ^ n : Nat) : Int) := by simp
  have e2 : ((x : Int) / ((2 ^ (28 - n) : Nat) : Int)) = ((x / 2 ^ (28 - n) : Nat) : Int) := by simp
  have e3 : (268435455 : Int) = ((268435455 : Nat) : Int) := rfl
  have h5 : (x * 2 ^ n ||| x / 2 ^ (28 - n)) < 2 ^ 64 := Nat.or_lt_two_pow (by omega) (by omega)
  rw [e1, e2, e3, wrap_u64 _ (by omega), bits_or_u64 _ _ (by omega) (by omega), bits_and_u64 _ _ h5 (by decide)]
theorem run_index_bs {P : Program} (ty n e : TypeId) (l : List UInt8) (hu : P.underlying ty = some (.array n e)) (hsz : ∀ w : World, (Go.sizeOf e : Sem Nat).run P w = .ok 1 w) (ha : ∀ w : World, (isAgg e).run P w = .ok false w) (hl : l.length = n) (k : Nat) (hk : k < n) (w : World) :
    (Instr.index ty (.agg (Bs l)) (.int .i64 k)).run P w = .ok (.int .u8 (bv (g8 l k))) w := by
  have hg := Bs_get l k (by omega)
  simp only [Instr.index, asIntOf]
  simp [run_underlying hu, hsz, part, ha, hg, hk]
end Lk
namespace Go.Proofs.YtbbfjlnkhenbiaaDoor
open Go.RowKit Lk
theorem u8_size : ∀ w : World, (Go.sizeOf 5 : Sem Nat).run Tryd.prog w = .ok 1 w := fun _ => by kernel_rfl
theorem u8_agg : ∀ w : World, (isAgg 5).run Tryd.prog w = .ok false w := fun _ => by kernel_rfl
set_option maxHeartbeats 800000 in
set_option maxRecDepth 100000 in
theorem number_any (b : List UInt8) (hb : b.length = 8) (w : World) : Calls Tryd.prog 73 #[.agg (Bs b)] w fun e w' => e = .returned (.int .u64 (nv (num b))) ∧ Below w.heap.size w w' := by
  have HIx := Lib.hid (run_index_bs (P := Tryd.prog) 75 8 5 b (by kernel_rfl) u8_size u8_agg hb)
  have HB := Lib.hid hb
  clear hb
  go_enter Tryd.func73, Tryd.ntmps73
  go_wp2_with (first
    | (refine box_blk rfl 75 _ rfl b rfl ?_; intro w0 hB0 hG0 hs0)
    | (refine load_blk rfl 75 _ rfl w.heap.size 75 8 5 b rfl hB0 HB.out (by kernel_rfl) (by kernel_rfl) ?_))
  have HBl := Lib.hid (below_none (Below.refl w.heap.size w) (Nat.le_refl _) hG0)
  clear hB0 hG0 hs0
  go_loop [3, 7] (fun o i => ∃ k : Nat, k ≤ 8 ∧ i = .int .i64 k ∧ o = .int .u64 (nv (numTo b k))) (fun _ i => 8 - (intOf i).toNat)
  case atStart => exact ⟨0, by omega, rfl, rfl⟩
  case round =>
    obtain ⟨k, hk, rfl, rfl⟩ := hrel
    by_cases hlt : k < 8
    · have hix := HIx.out k hlt
      obtain ⟨o, ho⟩ : ∃ o, numTo b k = o := ⟨_, rfl⟩
      have HO := Lib.hid ho
      rw [ho]
      clear ho
      go_wp2
      go_round
      case rel =>
        refine ⟨k + 1, by omega, by go_num, ?_⟩
        simp only [numTo]
        rw [HO.out]
        have hob := numTo_lt b k
        rw [HO.out] at hob
        exact congrArg (Value.int .u64) (num_step o k (g8 b k) hob hlt)
      case measure => simp [intOf]; omega
    · have HE := Lib.hid (show k = 8 by omega)
      go_wp2
      go_ret
      refine ⟨?_, HBl.out⟩
      have : numTo b k = num b := by rw [HE.out]; rfl
      rw [← this]; rfl
set_option maxHeartbeats 800000 in
set_option maxRecDepth 100000 in
theorem turn28_any (x n : Nat) (hx : x < 2 ^ 28) (hn : n = 1 ∨ n = 2) (w : World) : Calls Tryd.prog 100 #[.int .u64 (nv x), .int .i64 n] w fun e w' => e = .returned (.int .u64 (nv (rot28 x n))) ∧ Drawn w w' := by
  rcases hn with rfl | rfl
  all_goals
    go_enter Tryd.func100, Tryd.ntmps100
    go_wp2
    go_region
    go_wp2
    go_ret
  · exact ⟨congrArg (fun x => Ending.returned (.int .u64 x)) (turn_form x 1 134217728 hx (by decide) (by decide)), .one w⟩
  · exact ⟨congrArg (fun x => Ending.returned (.int .u64 x)) (turn_form x 2 67108864 hx (by decide) (by decide)), .one w⟩
set_option maxHeartbeats 800000 in
set_option maxRecDepth 100000 in
theorem bytes_any (x : Nat) (hx : x < 2 ^ 64) (w : World) : Calls Tryd.prog 75 #[.int .u64 (nv x)] w fun e w' => e = .returned (.agg (Bs (pbytes x))) ∧ Below w.heap.size w w' := by
  obtain ⟨n, hn⟩ : ∃ n, w.heap.size = n := ⟨_, rfl⟩
  have Hn := Lib.hid hn
  go_enter Tryd.func75, Tryd.ntmps75
  go_wp2_with (first
    | (refine alloc_row (w := w) rfl 75 rfl (.agg (Bs (List.replicate 8 0))) 8 (fun _ => by kernel_rfl) rfl ?_; intro w0 hR0 _ hG0 hs0)
    | (refine alloc_row (w := w0) rfl 75 rfl (.agg (Bs (List.replicate 8 0))) 8 (fun _ => by kernel_rfl) rfl ?_; intro w1 _ hB1 hG1 hs1))
  have hn0 : w0.heap.size = n + 1 := by omega
  have hB : Blk w1 (n + 1) 75 (bytesTo x 0) := by rw [← hn0]; exact hB1
  have hR : Row w1 n 75 8 := by rw [hn] at hR0; exact hR0.old hG1 (by simp)
  have hBl : Below n w w1 := below_none (below_none (Below.refl n w) (by omega) hG0) (by omega) hG1
  have hsz : n + 2 ≤ w1.heap.size := by omega
  clear hR0 hG0 hs0 hB1 hG1 hs1 hn0 hn
  go_loopw [5] (fun i wr => ∃ k : Nat, k ≤ 8 ∧ i = .int .i64 k ∧ Blk wr (n + 1) 75 (bytesTo x k) ∧ Row wr n 75 8 ∧ Below n w wr ∧ n + 2 ≤ wr.heap.size) (fun i _ => 8 - (intOf i).toNat)
  case atStart => exact ⟨0, by omega, rfl, hB, hR, hBl, hsz⟩
  case round =>
    clear hB hR hBl hsz
    obtain ⟨k, hk, rfl, hB, hR, hBl, hsz⟩ := hrel
    by_cases hlt : k < 8
    · have c1 : wr.cell? ⟨n + 1, k, none⟩ = some (.int .u8 (bv (g8 (bytesTo x k) k))) := hB.cell k (by rw [bytesTo_len]; exact hlt)
      have f1 : wr.frozen? ⟨n + 1, k, none⟩ = false := hB.free k
      have HB := Lib.hid hB
      have HR := Lib.hid hR
      have HBl := Lib.hid hBl
      clear hB hR hBl
      have hby : nv x / (2 : Int) ^ (56 - 8 * k) % (256 : Int) = bv (UInt8.ofNat (x / 2 ^ (56 - 8 * k))) := by rw [← byte_of x (56 - 8 * k) hx, IntKind.wrap_u8]
      obtain ⟨y, hy⟩ : ∃ y, UInt8.ofNat (x / 2 ^ (56 - 8 * k)) = y := ⟨_, rfl⟩
      rw [hy] at hby
      have HY := Lib.hid hy
      clear hy
      go_wp2
      go_roundw
      case rel =>
        refine ⟨k + 1, by omega, by go_num, ?_, HR.out.old (grown_set (grown_refl _ (some (n + 1))) _ _) (by simp), below_new HBl.out (by omega) (grown_set (grown_refl _ (some (n + 1))) _ _) (by omega), by simp; omega⟩
        rw [← bytesTo_set x k hlt, HY.out]
        exact HB.out.set k y
      case measure => simp [intOf]; omega
    · have HE := Lib.hid (show k = 8 by omega)
      have HB := Lib.hid (show Blk wr (n + 1) 75 (pbytes x) from by rw [← bytesTo_eight, ← HE.out]; exact hB)
      have HBl := Lib.hid hBl
      clear hB hBl
      go_wp2_with (first
        | (refine load_blk rfl 75 _ rfl (n + 1) 75 8 5 (pbytes x) rfl HB.out (pbytes_len x) (by kernel_rfl) (by kernel_rfl) ?_)
        | (refine store_blk rfl 75 _ _ rfl n 75 8 (pbytes x) rfl rfl hR (pbytes_len x) (by kernel_rfl) ?_; intro w8 hB8 hG8 hs8))
      refine bodyPost_ret (results_blk1 rfl _ _ n 75 8 5 (pbytes x) rfl hB8 (pbytes_len x) (by kernel_rfl) (by kernel_rfl)) rfl ⟨rfl, ?_⟩
      rw [Hn.out]; exact below_new HBl.out (by omega) hG8 (Nat.le_refl _)
end Go.Proofs.YtbbfjlnkhenbiaaDoor
