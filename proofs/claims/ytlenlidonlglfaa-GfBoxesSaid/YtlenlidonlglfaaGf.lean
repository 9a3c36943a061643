/- Products in the field of 256 elements: plain facts on bytes, no program in sight. -/
set_option linter.unusedSimpArgs false
namespace Lk
def xt (a : UInt8) : UInt8 := (a <<< 1) ^^^ (if a &&& 0x80 != 0 then 0x1b else 0)
def allB (p : UInt8 → Bool) : Bool := (List.range 256).all fun n => p (UInt8.ofNat n)
theorem allB_spec {p : UInt8 → Bool} (h : allB p = true) (a : UInt8) : p a = true := by
  unfold allB at h
  rw [List.all_eq_true] at h
  have := h a.toNat (by rw [List.mem_range]; exact a.toNat_lt)
  simpa using this
def hi (a : UInt8) : UInt8 := if a &&& 0x80 != 0 then 0x1b else 0
set_option maxRecDepth 10000 in
theorem hi80 (a : UInt8) : (a &&& 0x80 = 0 ∧ hi a = 0) ∨ (a &&& 0x80 = 0x80 ∧ hi a = 0x1b) := by
  have := allB_spec (p := fun a => (a &&& 0x80 == 0 && hi a == 0) || (a &&& 0x80 == 0x80 && hi a == 0x1b)) (by decide +kernel) a
  simpa using this
theorem hi_of0 {a : UInt8} (h : a &&& 0x80 = 0) : hi a = 0 := by simp [hi, h]
theorem hi_of1 {a : UInt8} (h : a &&& 0x80 = 0x80) : hi a = 0x1b := by rw [hi, h]; decide
theorem and_xor (a b c : UInt8) : (a ^^^ b) &&& c = (a &&& c) ^^^ (b &&& c) := by
  apply UInt8.eq_of_toBitVec_eq
  simp only [UInt8.toBitVec_and, UInt8.toBitVec_xor]
  ext i hi
  simp only [BitVec.getElem_and, BitVec.getElem_xor]
  exact Bool.and_xor_distrib_right _ _ _
theorem shl_xor (a b c : UInt8) : (a ^^^ b) <<< c = (a <<< c) ^^^ (b <<< c) := by
  apply UInt8.eq_of_toBitVec_eq
  simp [BitVec.shiftLeft_xor_distrib]
theorem shr_xor (a b c : UInt8) : (a ^^^ b) >>> c = (a >>> c) ^^^ (b >>> c) := by
  apply UInt8.eq_of_toBitVec_eq
  simp [BitVec.ushiftRight_xor_distrib]
theorem hi_xor (a b : UInt8) : hi (a ^^^ b) = hi a ^^^ hi b := by
  rcases hi80 a with ⟨h1, e1⟩ | ⟨h1, e1⟩ <;> rcases hi80 b with ⟨h2, e2⟩ | ⟨h2, e2⟩ <;> rw [e1, e2] <;>
    first | (rw [hi_of0 (by rw [and_xor, h1, h2]; decide)]; decide) | (rw [hi_of1 (by rw [and_xor, h1, h2]; decide)]; decide)
theorem xt_xor (a b : UInt8) : xt (a ^^^ b) = xt a ^^^ xt b := by
  show ((a ^^^ b) <<< 1) ^^^ hi (a ^^^ b) = (a <<< 1 ^^^ hi a) ^^^ (b <<< 1 ^^^ hi b)
  rw [hi_xor, shl_xor]
  ac_rfl

def mulLoop : Nat → UInt8 → UInt8 → UInt8 → UInt8
  | 0, o, _, _ => o
  | k + 1, o, a, b => mulLoop k (if b &&& 1 == 1 then o ^^^ a else o) (xt a) (b >>> 1)
/-- the product -/
def gmul (a b : UInt8) : UInt8 := mulLoop 8 0 a b
/-! the same on plain numbers: the kernel reckons these fast -/
def xtN (a : Nat) : Nat := bif Nat.blt a 128 then Nat.mul 2 a else Nat.xor (Nat.mul 2 a) 283
def mulN : Nat → Nat → Nat → Nat → Nat
  | 0, o, _, _ => o
  | k + 1, o, a, b => mulN k (bif Nat.beq (Nat.mod b 2) 1 then Nat.xor o a else o) (xtN a) (Nat.div b 2)
def gmulN (a b : Nat) : Nat := mulN 8 0 a b
set_option maxRecDepth 10000 in
theorem step_all : allB (fun a => Nat.beq (xt a).toNat (xtN a.toNat) && Nat.beq (a >>> 1).toNat (Nat.div a.toNat 2) && ((a &&& 1 == 1) == Nat.beq (Nat.mod a.toNat 2) 1)) = true := by decide +kernel
theorem step_spec (a : UInt8) : (xt a).toNat = xtN a.toNat ∧ (a >>> 1).toNat = Nat.div a.toNat 2 ∧ (a &&& 1 == 1) = Nat.beq (Nat.mod a.toNat 2) 1 := by
  have := allB_spec step_all a
  simp only [Bool.and_eq_true, Nat.beq_eq, beq_iff_eq (α := Bool)] at this
  exact ⟨this.1.1, this.1.2, this.2⟩
theorem mulLoop_N (k : Nat) : ∀ o a b, (mulLoop k o a b).toNat = mulN k o.toNat a.toNat b.toNat := by
  induction k with
  | zero => intro o a b; rfl
  | succ k ih =>
    intro o a b
    simp only [mulLoop, mulN]
    rw [ih, (step_spec a).1, (step_spec b).2.1, ← (step_spec b).2.2]
    cases (b &&& 1 == 1) <;> simp <;> rfl
theorem gmul_N (a b : UInt8) : (gmul a b).toNat = gmulN a.toNat b.toNat := mulLoop_N 8 0 a b
theorem toNat_eq {a b : UInt8} : (a == b) = Nat.beq a.toNat b.toNat := by
  by_cases h : a = b
  · subst h; simp
  · have : a.toNat ≠ b.toNat := fun e => h (UInt8.toNat.inj e)
    rw [beq_eq_false_iff_ne.2 h, Bool.eq_false_iff.2 (fun e => this (Nat.eq_of_beq_eq_true e))]
/-- all numbers below 256 -/
def allN (p : Nat → Bool) : Bool := (List.range 256).all p
theorem allN_spec {p : Nat → Bool} (h : allN p = true) (a : UInt8) : p a.toNat = true := by
  unfold allN at h
  rw [List.all_eq_true] at h
  exact h a.toNat (by rw [List.mem_range]; exact a.toNat_lt)
def sel (b a : UInt8) : UInt8 := if b &&& 1 == 1 then a else 0
set_option maxRecDepth 10000 in
theorem low01 (b : UInt8) : b &&& 1 = 0 ∨ b &&& 1 = 1 := by
  have := allB_spec (p := fun b => b &&& 1 == 0 || b &&& 1 == 1) (by decide +kernel) b
  simpa using this
theorem sel_0 {b : UInt8} (h : b &&& 1 = 0) (a : UInt8) : sel b a = 0 := by
  unfold sel; rw [h]; rfl
theorem sel_1 {b : UInt8} (h : b &&& 1 = 1) (a : UInt8) : sel b a = a := by
  unfold sel; rw [h]; rfl
theorem mulLoop_out (k : Nat) : ∀ o a b, mulLoop k o a b = o ^^^ mulLoop k 0 a b := by
  induction k with
  | zero => intro o a b; simp [mulLoop]
  | succ k ih =>
    intro o a b
    simp only [mulLoop]
    rw [ih]
    conv => rhs; rw [ih]
    split <;> simp [UInt8.xor_assoc]
theorem mulLoop_succ (k : Nat) (a b : UInt8) : mulLoop (k + 1) 0 a b = sel b a ^^^ mulLoop k 0 (xt a) (b >>> 1) := by
  simp only [mulLoop]
  rw [mulLoop_out]
  unfold sel
  split <;> simp
theorem sel_xor_right (b a a' : UInt8) : sel b (a ^^^ a') = sel b a ^^^ sel b a' := by
  unfold sel; split <;> simp
theorem sel_xor_left (b b' a : UInt8) : sel (b ^^^ b') a = sel b a ^^^ sel b' a := by
  rcases low01 b with h1 | h1 <;> rcases low01 b' with h2 | h2
  · rw [sel_0 h1, sel_0 h2, sel_0 (by rw [and_xor, h1, h2]; decide)]; simp
  · rw [sel_0 h1, sel_1 h2, sel_1 (by rw [and_xor, h1, h2]; decide)]; simp
  · rw [sel_1 h1, sel_0 h2, sel_1 (by rw [and_xor, h1, h2]; decide)]; simp
  · rw [sel_1 h1, sel_1 h2, sel_0 (by rw [and_xor, h1, h2]; decide)]; simp
theorem loop_xor_left (k : Nat) : ∀ a a' b, mulLoop k 0 (a ^^^ a') b = mulLoop k 0 a b ^^^ mulLoop k 0 a' b := by
  induction k with
  | zero => intro a a' b; simp [mulLoop]
  | succ k ih =>
    intro a a' b
    rw [mulLoop_succ, mulLoop_succ, mulLoop_succ, xt_xor, ih, sel_xor_right]
    ac_rfl
theorem loop_xor_right (k : Nat) : ∀ a b b', mulLoop k 0 a (b ^^^ b') = mulLoop k 0 a b ^^^ mulLoop k 0 a b' := by
  induction k with
  | zero => intro a a' b; simp [mulLoop]
  | succ k ih =>
    intro a b b'
    rw [mulLoop_succ, mulLoop_succ, mulLoop_succ, shr_xor, ih, sel_xor_left]
    ac_rfl
theorem gmul_xor_left (a a' b : UInt8) : gmul (a ^^^ a') b = gmul a b ^^^ gmul a' b := loop_xor_left 8 a a' b
theorem gmul_xor_right (a b b' : UInt8) : gmul a (b ^^^ b') = gmul a b ^^^ gmul a b' := loop_xor_right 8 a b b'

/-! what is additive is known by its values at the eight bits -/
def bit8 : List UInt8 := [1, 2, 4, 8, 16, 32, 64, 128]
def Add (f : UInt8 → UInt8) : Prop := ∀ a b, f (a ^^^ b) = f a ^^^ f b
theorem Add.zero {f : UInt8 → UInt8} (h : Add f) : f 0 = 0 := by
  have := h 0 0
  simpa using this
set_option maxRecDepth 10000 in
theorem split8 (a : UInt8) : a = (a &&& 1) ^^^ (a &&& 2) ^^^ (a &&& 4) ^^^ (a &&& 8) ^^^ (a &&& 16) ^^^ (a &&& 32) ^^^ (a &&& 64) ^^^ (a &&& 128) := by
  have := allB_spec (p := fun a => a == (a &&& 1) ^^^ (a &&& 2) ^^^ (a &&& 4) ^^^ (a &&& 8) ^^^ (a &&& 16) ^^^ (a &&& 32) ^^^ (a &&& 64) ^^^ (a &&& 128)) (by decide +kernel) a
  simpa using this
set_option maxRecDepth 10000 in
theorem bit_or (a c : UInt8) (hc : c ∈ bit8) : a &&& c = 0 ∨ a &&& c = c := by
  have := allB_spec (p := fun a => bit8.all fun c => a &&& c == 0 || a &&& c == c) (by decide +kernel) a
  rw [List.all_eq_true] at this
  simpa using this c hc
theorem add_ext {f g : UInt8 → UInt8} (hf : Add f) (hg : Add g) (h : ∀ c ∈ bit8, f c = g c) (a : UInt8) : f a = g a := by
  have h0 : ∀ c ∈ bit8, f (a &&& c) = g (a &&& c) := by
    intro c hc
    rcases bit_or a c hc with e | e <;> rw [e]
    · rw [hf.zero, hg.zero]
    · exact h c hc
  rw [split8 a]
  simp only [hf _ _, hg _ _]
  rw [h0 1 (by decide), h0 2 (by decide), h0 4 (by decide), h0 8 (by decide), h0 16 (by decide), h0 32 (by decide), h0 64 (by decide), h0 128 (by decide)]
theorem gmul_add_left (b : UInt8) : Add fun a => gmul a b := fun a a' => gmul_xor_left a a' b
theorem gmul_add_right (a : UInt8) : Add fun b => gmul a b := fun b b' => gmul_xor_right a b b'
theorem Add.comp {f g : UInt8 → UInt8} (hf : Add f) (hg : Add g) : Add fun a => f (g a) := fun a b => by
  show f (g (a ^^^ b)) = _
  rw [hg, hf]
theorem comm_bits : bit8.all (fun a => bit8.all fun b => Nat.beq (gmulN a.toNat b.toNat) (gmulN b.toNat a.toNat)) = true := by decide +kernel
theorem gmul_comm (a b : UInt8) : gmul a b = gmul b a := by
  refine add_ext (gmul_add_left b) (gmul_add_right b) (fun c hc => ?_) a
  refine add_ext (gmul_add_right c) (gmul_add_left c) (fun d hd => ?_) b
  have := comm_bits
  rw [List.all_eq_true] at this
  have := this c hc
  rw [List.all_eq_true] at this
  have := this d hd
  exact UInt8.toNat.inj (by rw [gmul_N, gmul_N]; exact Nat.eq_of_beq_eq_true this)
theorem assoc_bits : bit8.all (fun a => bit8.all fun b => bit8.all fun c => Nat.beq (gmulN a.toNat (gmulN b.toNat c.toNat)) (gmulN (gmulN a.toNat b.toNat) c.toNat)) = true := by decide +kernel
theorem gmul_assoc (a b c : UInt8) : gmul a (gmul b c) = gmul (gmul a b) c := by
  refine add_ext (gmul_add_left _) ((gmul_add_left c).comp (gmul_add_left b)) (fun x hx => ?_) a
  refine add_ext ((gmul_add_right x).comp (gmul_add_left c)) ((gmul_add_left c).comp (gmul_add_right x)) (fun y hy => ?_) b
  refine add_ext ((gmul_add_right x).comp (gmul_add_right y)) (gmul_add_right _) (fun z hz => ?_) c
  have := assoc_bits
  rw [List.all_eq_true] at this
  have := this x hx
  rw [List.all_eq_true] at this
  have := this y hy
  rw [List.all_eq_true] at this
  have := this z hz
  exact UInt8.toNat.inj (by rw [gmul_N, gmul_N, gmul_N, gmul_N]; exact Nat.eq_of_beq_eq_true this)
theorem gmul_zero_left (b : UInt8) : gmul 0 b = 0 := (gmul_add_left b).zero
theorem gmul_zero_right (b : UInt8) : gmul b 0 = 0 := (gmul_add_right b).zero

def invLoop : Nat → UInt8 → UInt8 → UInt8
  | 0, o, _ => o
  | k + 1, o, a => invLoop k (gmul o (gmul a a)) (gmul a a)
def ginv (a : UInt8) : UInt8 := invLoop 7 1 a
def invN : Nat → Nat → Nat → Nat
  | 0, o, _ => o
  | k + 1, o, a => invN k (gmulN o (gmulN a a)) (gmulN a a)
def ginvN (a : Nat) : Nat := invN 7 1 a
theorem invLoop_N (k : Nat) : ∀ o a, (invLoop k o a).toNat = invN k o.toNat a.toNat := by
  induction k with
  | zero => intro o a; rfl
  | succ k ih =>
    intro o a
    simp only [invLoop, invN]
    rw [ih, gmul_N, gmul_N]
theorem ginv_N (a : UInt8) : (ginv a).toNat = ginvN a.toNat := invLoop_N 7 1 a
set_option maxRecDepth 10000 in
theorem inv_all : allN (fun a => (Nat.beq a 0 && Nat.beq (ginvN a) 0 || Nat.beq (gmulN a (ginvN a)) 1) && Nat.beq (gmulN a 1) a && Nat.beq (ginvN (ginvN a)) a) = true := by decide +kernel
theorem u8_of {a : UInt8} {n : Nat} (h : a.toNat = n) : a = UInt8.ofNat n := by rw [← h]; simp
theorem inv_spec (a : UInt8) : (a = 0 ∧ ginv a = 0 ∨ gmul a (ginv a) = 1) ∧ gmul a 1 = a ∧ ginv (ginv a) = a := by
  have := allN_spec inv_all a
  simp only [Bool.and_eq_true, Bool.or_eq_true, Nat.beq_eq] at this
  refine ⟨?_, ?_, ?_⟩
  · rcases this.1.1 with ⟨h1, h2⟩ | h
    · exact .inl ⟨u8_of h1, u8_of (by rw [ginv_N]; exact h2)⟩
    · exact .inr (u8_of (by rw [gmul_N, ginv_N]; exact h))
  · exact UInt8.toNat.inj (by rw [gmul_N]; exact this.1.2)
  · exact UInt8.toNat.inj (by rw [ginv_N, ginv_N]; exact this.2)
theorem gmul_one (a : UInt8) : gmul a 1 = a := (inv_spec a).2.1
theorem one_gmul (a : UInt8) : gmul 1 a = a := by rw [gmul_comm, gmul_one]
theorem gmul_eq_zero (a b : UInt8) : gmul a b = 0 ↔ a = 0 ∨ b = 0 := by
  constructor
  · intro h
    rcases (inv_spec a).1 with ⟨h0, _⟩ | h1
    · exact .inl h0
    · refine .inr ?_
      have : gmul (gmul (ginv a) a) b = 0 := by rw [← gmul_assoc, h, gmul_zero_right]
      rwa [gmul_comm (ginv a) a, h1, one_gmul] at this
  · rintro (rfl | rfl)
    · exact gmul_zero_left b
    · exact gmul_zero_right a
theorem gmul_sq (a b : UInt8) : gmul (a ^^^ b) (a ^^^ b) = gmul a a ^^^ gmul b b := by
  rw [gmul_xor_left, gmul_xor_right, gmul_xor_right, gmul_comm b a]
  rw [UInt8.xor_assoc, ← UInt8.xor_assoc (gmul a b), UInt8.xor_self, UInt8.zero_xor]
def rot (a : UInt8) (n : Nat) : UInt8 := (a <<< (UInt8.ofNat n)) ||| (a >>> (UInt8.ofNat (8 - n)))
def rotN (a n : Nat) : Nat := Nat.lor (Nat.mod (Nat.shiftLeft a n) 256) (Nat.shiftRight a (8 - n))
theorem rot_N (a : UInt8) (n : Nat) (hn : 0 < n) (h8 : n < 8) : (rot a n).toNat = rotN a.toNat n := by
  unfold rot rotN
  simp only [UInt8.toNat_or, UInt8.toNat_shiftLeft, UInt8.toNat_shiftRight, UInt8.toNat_ofNat']
  rw [Nat.mod_eq_of_lt (show n < 2 ^ 8 by omega), Nat.mod_eq_of_lt (show 8 - n < 2 ^ 8 by omega), Nat.mod_eq_of_lt h8, Nat.mod_eq_of_lt (show 8 - n < 8 by omega)]
  rfl
def gaff (b : UInt8) : UInt8 := b ^^^ rot b 1 ^^^ rot b 2 ^^^ rot b 3 ^^^ rot b 4 ^^^ 0x63
def gbox (a : UInt8) : UInt8 := gaff (ginv a)
def gunbox (a : UInt8) : UInt8 := ginv (rot a 1 ^^^ rot a 3 ^^^ rot a 6 ^^^ 0x05)
def gaffN (b : Nat) : Nat := Nat.xor (Nat.xor (Nat.xor (Nat.xor (Nat.xor b (rotN b 1)) (rotN b 2)) (rotN b 3)) (rotN b 4)) 99
def gboxN (a : Nat) : Nat := gaffN (ginvN a)
def gunboxN (a : Nat) : Nat := ginvN (Nat.xor (Nat.xor (Nat.xor (rotN a 1) (rotN a 3)) (rotN a 6)) 5)
theorem gaff_N (b : UInt8) : (gaff b).toNat = gaffN b.toNat := by
  unfold gaff gaffN
  simp only [UInt8.toNat_xor, rot_N _ 1 (by decide) (by decide), rot_N _ 2 (by decide) (by decide), rot_N _ 3 (by decide) (by decide), rot_N _ 4 (by decide) (by decide)]
  rfl
theorem gbox_N (a : UInt8) : (gbox a).toNat = gboxN a.toNat := by
  unfold gbox gboxN
  rw [gaff_N, ginv_N]
theorem gunbox_N (a : UInt8) : (gunbox a).toNat = gunboxN a.toNat := by
  unfold gunbox gunboxN
  rw [ginv_N]
  simp only [UInt8.toNat_xor, rot_N _ 1 (by decide) (by decide), rot_N _ 3 (by decide) (by decide), rot_N _ 6 (by decide) (by decide)]
  rfl
set_option maxRecDepth 10000 in
theorem box_all : allN (fun a => Nat.beq (gunboxN (gboxN a)) a && Nat.beq (gboxN (gunboxN a)) a) = true := by decide +kernel
theorem unbox_box (a : UInt8) : gunbox (gbox a) = a := by
  have := allN_spec box_all a
  simp only [Bool.and_eq_true, Nat.beq_eq] at this
  exact UInt8.toNat.inj (by rw [gunbox_N, gbox_N]; exact this.1)
theorem box_unbox (a : UInt8) : gbox (gunbox a) = a := by
  have := allN_spec box_all a
  simp only [Bool.and_eq_true, Nat.beq_eq] at this
  exact UInt8.toNat.inj (by rw [gbox_N, gunbox_N]; exact this.2)
/-! the document's product: of all bits, and its rest -/
def tm (a b i j : Nat) : Nat := bif Nat.testBit a i && Nat.testBit b j then Nat.shiftLeft 1 (i + j) else 0
def rinner : Nat → Nat → Nat → Nat → Nat → Nat
  | 0, _, _, _, p => p
  | n + 1, a, b, i, p => rinner n a b i (Nat.xor p (tm a b i (7 - n)))
def router : Nat → Nat → Nat → Nat → Nat
  | 0, _, _, p => p
  | n + 1, a, b, p => router n a b (rinner 8 a b (7 - n) p)
def rt (p n : Nat) : Nat := bif Nat.testBit p (n + 8) then Nat.shiftLeft 283 n else 0
def rred : Nat → Nat → Nat
  | 0, p => p
  | n + 1, p => rred n (Nat.xor p (rt p n))
def rmulN (a b : Nat) : Nat := Nat.mod (rred 7 (router 8 a b 0)) 256
theorem xor4 (p p' x x' : Nat) : Nat.xor (Nat.xor p p') (Nat.xor x x') = Nat.xor (Nat.xor p x) (Nat.xor p' x') := by
  show (p ^^^ p') ^^^ (x ^^^ x') = (p ^^^ x) ^^^ (p' ^^^ x')
  ac_rfl
theorem tm_add_a (a a' b i j : Nat) : tm (Nat.xor a a') b i j = Nat.xor (tm a b i j) (tm a' b i j) := by
  unfold tm
  rw [show Nat.testBit (Nat.xor a a') i = (a.testBit i ^^ a'.testBit i) from Nat.testBit_xor ..]
  cases Nat.testBit a i <;> cases Nat.testBit a' i <;> cases Nat.testBit b j <;> simp [Nat.xor_self, show ∀ x y, Nat.xor x y = x ^^^ y from fun _ _ => rfl]
theorem tm_add_b (a b b' i j : Nat) : tm a (Nat.xor b b') i j = Nat.xor (tm a b i j) (tm a b' i j) := by
  unfold tm
  rw [show Nat.testBit (Nat.xor b b') j = (b.testBit j ^^ b'.testBit j) from Nat.testBit_xor ..]
  cases Nat.testBit a i <;> cases Nat.testBit b j <;> cases Nat.testBit b' j <;> simp [Nat.xor_self, show ∀ x y, Nat.xor x y = x ^^^ y from fun _ _ => rfl]
theorem rt_add (p p' n : Nat) : rt (Nat.xor p p') n = Nat.xor (rt p n) (rt p' n) := by
  unfold rt
  rw [show Nat.testBit (Nat.xor p p') (n + 8) = (p.testBit (n + 8) ^^ p'.testBit (n + 8)) from Nat.testBit_xor ..]
  cases Nat.testBit p (n + 8) <;> cases Nat.testBit p' (n + 8) <;> simp [Nat.xor_self, show ∀ x y, Nat.xor x y = x ^^^ y from fun _ _ => rfl]
theorem rinner_add_a (n : Nat) : ∀ a a' b i p p', rinner n (Nat.xor a a') b i (Nat.xor p p') = Nat.xor (rinner n a b i p) (rinner n a' b i p') := by
  induction n with
  | zero => intros; rfl
  | succ n ih => intro a a' b i p p'; simp only [rinner]; rw [tm_add_a, xor4, ih]
theorem rinner_add_b (n : Nat) : ∀ a b b' i p p', rinner n a (Nat.xor b b') i (Nat.xor p p') = Nat.xor (rinner n a b i p) (rinner n a b' i p') := by
  induction n with
  | zero => intros; rfl
  | succ n ih => intro a b b' i p p'; simp only [rinner]; rw [tm_add_b, xor4, ih]
theorem router_add_a (n : Nat) : ∀ a a' b p p', router n (Nat.xor a a') b (Nat.xor p p') = Nat.xor (router n a b p) (router n a' b p') := by
  induction n with
  | zero => intros; rfl
  | succ n ih => intro a a' b p p'; simp only [router]; rw [rinner_add_a, ih]
theorem router_add_b (n : Nat) : ∀ a b b' p p', router n a (Nat.xor b b') (Nat.xor p p') = Nat.xor (router n a b p) (router n a b' p') := by
  induction n with
  | zero => intros; rfl
  | succ n ih => intro a b b' p p'; simp only [router]; rw [rinner_add_b, ih]
theorem rred_add (n : Nat) : ∀ p p', rred n (Nat.xor p p') = Nat.xor (rred n p) (rred n p') := by
  induction n with
  | zero => intros; rfl
  | succ n ih => intro p p'; simp only [rred]; rw [rt_add, xor4, ih]
theorem mod_xor (x y : Nat) : Nat.mod (Nat.xor x y) 256 = Nat.xor (Nat.mod x 256) (Nat.mod y 256) :=
  Nat.xor_mod_two_pow (n := 8)
theorem rmulN_lt (a b : Nat) : rmulN a b < 256 := Nat.mod_lt _ (by decide)
def rmul (a b : UInt8) : UInt8 := UInt8.ofNat (rmulN a.toNat b.toNat)
theorem rmul_N (a b : UInt8) : (rmul a b).toNat = rmulN a.toNat b.toNat := by
  unfold rmul
  rw [UInt8.toNat_ofNat']
  exact Nat.mod_eq_of_lt (rmulN_lt _ _)
theorem rmul_add_left (b : UInt8) : Add fun a => rmul a b := by
  intro a a'
  apply UInt8.toNat.inj
  show (rmul (a ^^^ a') b).toNat = (rmul a b ^^^ rmul a' b).toNat
  rw [UInt8.toNat_xor, rmul_N, rmul_N, rmul_N, UInt8.toNat_xor]
  show Nat.mod (rred 7 (router 8 (Nat.xor a.toNat a'.toNat) b.toNat (Nat.xor 0 0))) 256 = _
  rw [router_add_a, rred_add, mod_xor]
  rfl
theorem rmul_add_right (a : UInt8) : Add fun b => rmul a b := by
  intro b b'
  apply UInt8.toNat.inj
  show (rmul a (b ^^^ b')).toNat = (rmul a b ^^^ rmul a b').toNat
  rw [UInt8.toNat_xor, rmul_N, rmul_N, rmul_N, UInt8.toNat_xor]
  show Nat.mod (rred 7 (router 8 a.toNat (Nat.xor b.toNat b'.toNat) (Nat.xor 0 0))) 256 = _
  rw [router_add_b, rred_add, mod_xor]
  rfl
theorem rmul_bits : bit8.all (fun a => bit8.all fun b => Nat.beq (rmulN a.toNat b.toNat) (gmulN a.toNat b.toNat)) = true := by decide +kernel
theorem rmul_eq (a b : UInt8) : rmul a b = gmul a b := by
  refine add_ext (rmul_add_left b) (gmul_add_left b) (fun c hc => ?_) a
  refine add_ext (rmul_add_right c) (gmul_add_right c) (fun d hd => ?_) b
  have := rmul_bits
  rw [List.all_eq_true] at this
  have := this c hc
  rw [List.all_eq_true] at this
  have := this d hd
  exact UInt8.toNat.inj (by rw [rmul_N, gmul_N]; exact Nat.eq_of_beq_eq_true this)
theorem rmulN_eq (a b : UInt8) : rmulN a.toNat b.toNat = (gmul a b).toNat := by rw [← rmul_N, rmul_eq]
end Lk
