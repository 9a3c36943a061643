/- The bits of a number as a list, the highest first; what DES does with numbers, told of such lists. -/
import Derived.Test.YtbbfjlnkhenbiaaGreatDoorKRH
import Derived.Test.YtbbfjlnkhenbiaaGreatDoorKB5
import Derived.Test.YtbbfjlnkhenbiaaGreatDoorKB6
import Derived.StillTailTactics
import Derived.IntWalk
import Derived.Test.YtbbfjlnkhenbiaaGreatDoorKG0
import Derived.Test.YtbbfjlnkhenbiaaGreatDoorKM1
import Derived.Test.YtbbfjlnkhenbiaaGreatDoorKB4
set_option linter.unusedVariables false
set_option linter.unusedSimpArgs false
namespace Lk
def tb (x i : Nat) : Int := ((x / 2 ^ i % 2 : Nat) : Int)
theorem tb_eq {x y i j : Nat} (h : x.testBit i = y.testBit j) : tb x i = tb y j := by
  unfold tb
  rw [← Nat.toNat_testBit, ← Nat.toNat_testBit, h]
theorem tb_01 (x i : Nat) : tb x i = 0 ∨ tb x i = 1 := by unfold tb; omega
def nb (x n : Nat) : List Int := (List.range n).map fun i => tb x (n - 1 - i)
theorem nb_len (x n : Nat) : (nb x n).length = n := by simp [nb]
theorem nb_at (x n i : Nat) (hi : i < n) : (nb x n).getD i 0 = tb x (n - 1 - i) := by
  simp [nb, hi]
theorem getD_map' (l : List Nat) (f : Nat → Int) (i : Nat) (hi : i < l.length) : (l.map f).getD i 0 = f (l.getD i 0) := by
  simp [List.getD_eq_getElem?_getD, hi]
theorem getD_take (a : List Int) (n i : Nat) (h : i < n) : (a.take n).getD i 0 = a.getD i 0 := by
  simp [List.getD_eq_getElem?_getD, List.getElem?_take, h]
theorem nb_congr {x y n : Nat} (h : ∀ i, i < n → x.testBit i = y.testBit i) : nb x n = nb y n := by
  unfold nb
  apply List.map_congr_left
  intro i hi
  have := List.mem_range.1 hi
  exact tb_eq (h _ (by omega))
/-- as a table says -/
def lperm (l : List Int) (tab : List Nat) : List Int := tab.map fun n => l.getD (n - 1) 0
theorem lperm_nb (x size : Nat) (tab : List Nat) (h : ∀ k, k < tab.length → 1 ≤ tab.getD k 0 ∧ tab.getD k 0 ≤ size) : lperm (nb x size) tab = nb (perm x size tab) tab.length := by
  apply ext_d
  · simp [lperm, nb_len]
  · intro i hi
    have hi' : i < tab.length := by simpa [lperm] using hi
    obtain ⟨h1, h2⟩ := h i hi'
    unfold lperm
    rw [getD_map' _ _ _ hi', nb_at _ _ _ (by omega), nb_at _ _ _ hi']
    apply tb_eq
    unfold perm
    rw [permTo_tb x size tab tab.length (Nat.le_refl _) _ (by omega), show tab.length - 1 - (tab.length - 1 - i) = i by omega, show size - 1 - (tab.getD i 0 - 1) = size - tab.getD i 0 by omega]
theorem nb_app (a c n m : Nat) (hc : c < 2 ^ m) : nb (a * 2 ^ m + c) (n + m) = nb a n ++ nb c m := by
  apply ext_d
  · simp [nb_len]
  · intro i hi
    rw [nb_len] at hi
    rw [nb_at _ _ _ hi, getD_app, nb_len]
    split
    · rename_i h
      rw [nb_at _ _ _ h]
      apply tb_eq
      rw [Nat.mul_comm, Nat.testBit_two_pow_mul_add _ hc, if_neg (by omega)]
      congr 1; omega
    · rename_i h
      rw [nb_at _ _ _ (by omega)]
      apply tb_eq
      rw [Nat.mul_comm, Nat.testBit_two_pow_mul_add _ hc, if_pos (by omega)]
      congr 1; omega
theorem nb_take (x n m : Nat) : (nb x (n + m)).take n = nb (x / 2 ^ m) n := by
  apply ext_d
  · simp [nb_len]
  · intro i hi
    rw [List.length_take, nb_len] at hi
    rw [getD_take _ _ _ (by omega), nb_at _ _ _ (by omega), nb_at _ _ _ (by omega)]
    apply tb_eq
    rw [Nat.testBit_div_two_pow]
    congr 1; omega
theorem nb_drop (x n m : Nat) : (nb x (n + m)).drop n = nb x m := by
  apply ext_d
  · simp [nb_len]
  · intro i hi
    rw [List.length_drop, nb_len] at hi
    rw [getD_drop, nb_at _ _ _ (by omega), nb_at _ _ _ (by omega), show n + m - 1 - (n + i) = m - 1 - i by omega]
theorem or_add (a c m : Nat) (hc : c < 2 ^ m) : a * 2 ^ m ||| c = a * 2 ^ m + c := by
  have := Nat.two_pow_add_eq_or_of_lt (i := m) hc a
  rw [Nat.mul_comm] at this
  exact this.symm
theorem byteBits_nb (c : UInt8) : byteBits c = nb c.toNat 8 := rfl
theorem pbits_numTo (b : List UInt8) (k : Nat) (hk : k ≤ b.length) : pbits (b.take k) = nb (numTo b k) (8 * k) := by
  induction k with
  | zero => rfl
  | succ k ih =>
    rw [pbits_take b k (by omega), ih (by omega), byteBits_nb, show 8 * (k + 1) = 8 * k + 8 by omega]
    have := nb_app (numTo b k) (g8 b k).toNat (8 * k) 8 (g8 b k).toNat_lt
    rw [← this]
    show _ = nb (256 * numTo b k + (g8 b k).toNat) _
    rw [Nat.mul_comm 256]
theorem pbits_num (b : List UInt8) (hb : b.length = 8) : pbits b = nb (num b) 64 := by
  have := pbits_numTo b 8 (by omega)
  rw [List.take_of_length_le (by omega)] at this
  exact this
theorem nb_rot (x n : Nat) (hx : x < 2 ^ 28) (hn : n = 1 ∨ n = 2) : (nb x 28).drop n ++ (nb x 28).take n = nb (rot28 x n) 28 := by
  have hbit : ∀ j, 28 ≤ j → x.testBit j = false := fun j hj => Nat.testBit_lt_two_pow (Nat.lt_of_lt_of_le hx (Nat.pow_le_pow_right (by decide) hj))
  apply ext_d
  · rcases hn with rfl | rfl <;> simp [nb_len]
  · intro i hi
    have hi28 : i < 28 := by rcases hn with rfl | rfl <;> simpa [nb_len] using hi
    rw [getD_app, List.length_drop, nb_len, nb_at _ _ _ hi28]
    unfold rot28
    have hm : (268435455 : Nat) = 2 ^ 28 - 1 := by decide
    split
    · rename_i h
      rw [getD_drop, nb_at _ _ _ (by omega)]
      apply tb_eq
      rw [hm, Nat.testBit_and, Nat.testBit_two_pow_sub_one, Nat.testBit_or, Nat.mul_comm, Nat.testBit_two_pow_mul, Nat.testBit_div_two_pow]
      rw [hbit (28 - 1 - i + (28 - n)) (by omega)]
      rw [show (decide (28 - 1 - i < 28)) = true by simp; omega, show decide (28 - 1 - i ≥ n) = true by simp; omega]
      simp
      congr 1; omega
    · rename_i h
      rw [getD_take _ _ _ (by omega), nb_at _ _ _ (by omega)]
      apply tb_eq
      rw [hm, Nat.testBit_and, Nat.testBit_two_pow_sub_one, Nat.testBit_or, Nat.mul_comm, Nat.testBit_two_pow_mul, Nat.testBit_div_two_pow]
      rw [show (decide (28 - 1 - i < 28)) = true by simp; omega, show decide (28 - 1 - i ≥ n) = false by simp; omega]
      simp
      congr 1; omega
/-- a bit of the six that a box is asked -/
theorem six_bit (h k i j : Nat) (hh : h < 2 ^ 32) (hi : i < 8) (hj : j < 6) : (sixOf h k i).testBit (5 - j) = ((h.testBit (31 - (4 * i + j + 31) % 32)) ^^ (k.testBit (47 - (6 * i + j)))) := by
  unfold sixOf
  have hbit : ∀ j, 32 ≤ j → h.testBit j = false := fun j hj => Nat.testBit_lt_two_pow (Nat.lt_of_lt_of_le hh (Nat.pow_le_pow_right (by decide) hj))
  have h63 : (63 : Nat) = 2 ^ 6 - 1 := by decide
  have hwide : (wide h).testBit (5 - j + (28 - 4 * i)) = h.testBit (31 - (4 * i + j + 31) % 32) := by
    rw [Nat.add_comm]
    unfold wide
    rw [Nat.testBit_or, Nat.testBit_or, Nat.testBit_div_two_pow, show h * 2 = 2 ^ 1 * h by omega, Nat.testBit_two_pow_mul, Nat.mul_comm (h &&& 1), Nat.testBit_two_pow_mul, Nat.testBit_and]
    by_cases h1 : i = 0 ∧ j = 0
    · obtain ⟨rfl, rfl⟩ := h1
      rw [hbit (28 - 4 * 0 + (5 - 0) + 31) (by decide), hbit (28 - 4 * 0 + (5 - 0) - 1) (by decide)]
      simp
    · by_cases h2 : i = 7 ∧ j = 5
      · obtain ⟨rfl, rfl⟩ := h2
        simp
      · rw [hbit (28 - 4 * i + (5 - j) + 31) (by omega), show decide (28 - 4 * i + (5 - j) ≥ 33) = false by simp; omega, show decide (28 - 4 * i + (5 - j) ≥ 1) = true by simp; omega]
        simp only [Bool.false_and, Bool.true_and, Bool.false_or, Bool.or_false]
        congr 1; omega
  rw [Nat.testBit_xor, h63, Nat.testBit_and, Nat.testBit_and, Nat.testBit_two_pow_sub_one, Nat.testBit_div_two_pow, Nat.testBit_div_two_pow, show decide (5 - j < 6) = true by simp; omega, hwide]
  simp only [Bool.and_true]
  congr 2; omega
end Lk
set_option linter.unusedVariables false
set_option linter.unusedSimpArgs false
namespace Lk
open Go Go.RowKit
theorem tb_xor (x y i j : Nat) : Go.bits .xor .i64 (tb x i) (tb y j) = (((x.testBit i) ^^ (y.testBit j)).toNat : Int) := by
  unfold tb
  rw [← Nat.toNat_testBit, ← Nat.toNat_testBit, bits_xor_i64 _ _ (by cases x.testBit i <;> decide) (by cases y.testBit j <;> decide)]
  cases x.testBit i <;> cases y.testBit j <;> rfl
theorem tb_bool (x i : Nat) : tb x i = ((x.testBit i).toNat : Int) := by unfold tb; rw [← Nat.toNat_testBit]
theorem tb_nat (x i : Nat) : ∃ b : Nat, tb x i = (b : Int) ∧ b < 2 := ⟨x / 2 ^ i % 2, rfl, Nat.mod_lt _ (by decide)⟩
/-- what is summed up of a number's bits -/
def accB (x j k : Nat) : Nat := x / 2 ^ (64 - (8 * j + k)) % 2 ^ k
theorem accB_zero (x j : Nat) : accB x j 0 = 0 := by unfold accB; rw [Nat.pow_zero, Nat.mod_one]
theorem accB_succ (x j k : Nat) (h : 8 * j + k < 64) : 2 * (accB x j k : Int) + tb x (63 - (8 * j + k)) = (accB x j (k + 1) : Int) := by
  unfold accB tb
  obtain ⟨y, hy⟩ : ∃ y, x / 2 ^ (63 - (8 * j + k)) = y := ⟨_, rfl⟩
  have e1 : x / 2 ^ (64 - (8 * j + k)) = y / 2 := by
    rw [← hy, Nat.div_div_eq_div_mul, show 64 - (8 * j + k) = (63 - (8 * j + k)) + 1 by omega, Nat.pow_succ]
  have e2 : x / 2 ^ (64 - (8 * j + (k + 1))) = y := by rw [← hy, show 64 - (8 * j + (k + 1)) = 63 - (8 * j + k) by omega]
  rw [e1, e2, hy, Nat.pow_succ]
  have e3 : y % (2 ^ k * 2) = 2 * (y / 2 % 2 ^ k) + y % 2 := by
    rw [Nat.mul_comm, Nat.mod_mul]; omega
  rw [e3]
  omega
theorem accB_lt (x j k : Nat) : accB x j k < 2 ^ k := Nat.mod_lt _ (Nat.two_pow_pos k)
theorem accB_byte (x j : Nat) (hj : j < 8) : IntKind.u8.wrap (accB x j 8 : Int) = bv (UInt8.ofNat (x / 2 ^ (56 - 8 * j))) := by
  unfold accB bv
  rw [IntKind.wrap_u8, UInt8.toNat_ofNat', show 64 - (8 * j + 8) = 56 - 8 * j by omega]
  omega
theorem pbytes_take (x j : Nat) (hj : j < 8) : (pbytes x).take (j + 1) = (pbytes x).take j ++ [UInt8.ofNat (x / 2 ^ (56 - 8 * j))] := by
  rw [List.take_succ_eq_append_getElem (by rw [pbytes_len]; exact hj)]
  simp [pbytes]
theorem take_oneI (l : List Int) (k : Nat) (hk : k < l.length) : l.take (k + 1) = l.take k ++ [l.getD k 0] := by
  rw [List.take_succ_eq_append_getElem hk]
  simp [List.getD_eq_getElem?_getD, hk]
theorem lperm_len (l : List Int) (tab : List Nat) : (lperm l tab).length = tab.length := by simp [lperm]
theorem lperm_at (l : List Int) (tab : List Nat) (k : Nat) (hk : k < tab.length) : (lperm l tab).getD k 0 = l.getD (tab.getD k 0 - 1) 0 := by
  unfold lperm; rw [getD_map' _ _ _ hk]
end Lk
namespace Go.Proofs.YtbbfjlnkhenbiaaGreatDoor
open Go.RowKit Lk
set_option maxHeartbeats 800000 in
set_option maxRecDepth 100000 in
theorem place_any (s : ByteArray) (tab : List Nat) (k : Nat) (w : World) (hs : Tells s tab) (hk : k < tab.length) (hl : tab.length ≤ 64) :
    Calls Tryz.prog 108 #[.string s, .int .i64 k] w fun e w' => e = .returned (.int .i64 (tab.getD k 0)) ∧ Drawn w w' := by
  have hss : s.size = 2 * tab.length := hs.1
  obtain ⟨i, hi⟩ : ∃ i, 2 * k = i := ⟨_, rfl⟩
  obtain ⟨g1, g2, g3⟩ := hs.2 k hk i hi.symm
  have h1 : i < s.size := by omega
  have h2 : i + 1 < s.size := by omega
  have him : i + 2 ≤ 128 := by omega
  have h1i : (i : Int) < (s.size : Int) := by omega
  have h2i : (i : Int) + 1 < (s.size : Int) := by omega
  have hk2 : 2 * (k : Int) = (i : Int) := by omega
  obtain ⟨a, ha⟩ : ∃ a, tab.getD k 0 = a := ⟨_, rfl⟩
  rw [ha] at g1 g2 g3 ⊢
  have hkm : k ≤ 64 := by omega
  have HA := Lib.hid (show a / 10 * 10 + a % 10 = a by omega)
  clear hs hk hl hss hi ha
  go_enter Tryz.func108, Tryz.ntmps108
  go_wp2
  go_region
  go_wp2
  go_ret
  exact ⟨congrArg (fun x => Ending.returned (.int .i64 x)) (by have := HA.out; omega), .one w⟩
set_option maxHeartbeats 1600000 in
set_option maxRecDepth 100000 in
theorem rperm_any (v : Value) (l : List Int) (s : ByteArray) (tab : List Nat) (w : World) (h : SlV w v (Is l)) (hs : Tells s tab) (hl : tab.length ≤ 64) (hin : ∀ k, k < tab.length → 1 ≤ tab.getD k 0 ∧ tab.getD k 0 ≤ l.length) (hll : l.length ≤ 1000) :
    Calls Tryz.prog 106 #[v, .string s] w fun e w' => ∃ v', e = .returned v' ∧ OwnV w' w.heap.size intt v' (Is (lperm l tab)) ∧ Below w.heap.size w w' := by
  obtain ⟨N, hN⟩ : ∃ N, w.heap.size = N := ⟨_, rfl⟩
  have HN := Lib.hid hN
  obtain ⟨L, hL⟩ : ∃ L, l.length = L := ⟨_, rfl⟩
  have EL := Lib.hid hL
  have HS := Lib.hid hs
  have hss : s.size = 2 * tab.length := hs.1
  obtain ⟨m, hm⟩ : ∃ m, tab.length = m := ⟨_, rfl⟩
  have HM := Lib.hid hm
  rw [hm] at hss hl hin
  rw [hL] at hll hin
  have HIN := Lib.hid hin
  have hs2 : (s.size : Int) / 2 = (m : Int) := by omega
  have HX := Lib.hid (show (lperm l tab).length = m by rw [lperm_len, hm])
  obtain ⟨A, c, rfl, n1, n2, n3, n4⟩ := h
  rw [Is_len, hL] at n2 ⊢
  have N4 := Lib.hid n4
  have hss2 : s.size ≤ 128 := by omega
  clear hN hL n1 n4 hs hin hss hm
  have hL0 : Below N w w := Below.refl _ _
  have ho0 : OwnV w N intt (.slice none 0 0) (Is ((lperm l tab).take 0)) := ownV_nil _ _ _
  go_enter Tryz.func106, Tryz.ntmps106
  go_wp2
  go_loopw [5, 6] (fun o i wr => ∃ k : Nat, k ≤ m ∧ i = .int .i64 k ∧ OwnV wr N intt o (Is ((lperm l tab).take k)) ∧ Below N w wr) (fun _ i _ => m - (intOf i).toNat)
  case atStart => exact ⟨0, by omega, rfl, ho0, hL0⟩
  case round =>
    clear ho0 hL0
    obtain ⟨k, hk, rfl, hO, hB⟩ := hrel
    have HO := Lib.hid hO
    have HB := Lib.hid hB
    by_cases hlt : k < m
    · have HLT := Lib.hid hlt
      obtain ⟨hq1, hq2⟩ := HIN.out k hlt
      obtain ⟨b, hb⟩ : ∃ b, tab.getD k 0 = b + 1 := ⟨tab.getD k 0 - 1, by omega⟩
      obtain ⟨g, o, rfl, hr⟩ := N4.out (by omega)
      have hbL : b < L := by omega
      have hbLi : (b : Int) < (L : Int) := by omega
      have hcell := hr b (.int .i64 (l.getD b 0)) (Is_get l b (by rw [EL.out]; exact hbL))
      have HR := Lib.hid (show ∀ wq, Below N w wq → wq.cell? ⟨g, o + b, none⟩ = some (.int .i64 (l.getD b 0)) from fun wq hq => cell_below hcell hq (by rw [← HN.out]; exact block_of_cell hcell))
      have HPL := Lib.hid (place_any s tab k wr HS.out (by rw [HM.out]; exact hlt) (by rw [HM.out]; exact hl))
      rw [hb] at HPL
      have HT := Lib.hid (take_oneI (lperm l tab) k (by rw [HX.out]; exact hlt))
      rw [lperm_at l tab k (by rw [HM.out]; exact hlt), hb, Nat.add_sub_cancel] at HT
      obtain ⟨x, hx⟩ : ∃ x, l.getD b 0 = x := ⟨_, rfl⟩
      rw [hx] at HR HT
      clear hO hB hr hq1 hq2 hb hcell hx
      go_wp2_with (first
        | (go_at_call 108; refine HPL.out.mono ?_; rintro e w1 ⟨rfl, hD⟩; rw [show (((b + 1 : Nat)) : Int) = (b : Int) + 1 from by omega]; have HB1 := Lib.hid (show Below N w w1 from below_more HB.out hD.below0 (by have := HB.out.size; have := HN.out; omega)); have HO1 := Lib.hid (show OwnV w1 N intt _ (Is ((lperm l tab).take k)) from by obtain ⟨nd, rfl⟩ := hD; exact HO.out.drewN nd); have cc := HR.out w1 HB1.out; clear hD)
        | (at_builtin; refine append_v hu_isl hi_int (by decide) (by decide) rfl rfl _ _ rfl N _ _ (by rfl) (HO1.out.alloc _) _ [.int .i64 x] (by rfl) (one_slV _ _ _) (Is_one [x]) (by rw [Is_len, List.length_take]; simp; omega) (by simp; exact Nat.le_trans (Nat.le_of_eq HN.out.symm) (by have := HB1.out.size; have := HN.out; omega)) ?_; intro v2 w2 hO2 hG2; have HO2 := Lib.hid hO2; have HB2 := Lib.hid (show Below N w w2 from below_own (below_alloc HB1.out (by have := HB1.out.size; have := HN.out; omega) _) (by simp; have := HB1.out.size; have := HN.out; omega) hG2 (fun q hq => (HO1.out.lt q hq).1)); clear hO2 hG2))
      go_roundw
      case rel =>
        refine ⟨k + 1, HLT.out, by go_num, ?_, HB2.out⟩
        rw [HT.out, Is_app]
        exact HO2.out
      case measure => have := HLT.out; simp [intOf]; omega
    · have HE := Lib.hid (show (lperm l tab).take k = lperm l tab from List.take_of_length_le (by rw [HX.out]; omega))
      clear hO hB
      go_wp2
      go_ret
      exact ⟨_, rfl, by rw [HN.out]; have := HO.out; rw [HE.out] at this; exact this, by rw [HN.out]; exact HB.out⟩
theorem digit_lo (d : Nat) (w : World) (hd : d < 10) : Calls Tryz.prog 132 #[.int .u8 ((48 + d : Nat) : Int)] w fun e w' => e = .returned (.int .i64 d) ∧ w' = w := by
  obtain ⟨z, hz⟩ : ∃ z : Int, ((48 + d : Nat) : Int) = z := ⟨_, rfl⟩
  have h1 : ¬ (97 : Int) ≤ z := by omega
  have h2 : z - 48 = (d : Int) := by omega
  have h3 : 0 ≤ z := by omega
  have h4 : z < 256 := by omega
  rw [hz]
  clear hz
  go_enter Tryz.func132, Tryz.ntmps132
  go_wp2
  go_ret
  exact ⟨rfl, rfl⟩
theorem digit_hi (d : Nat) (w : World) (hd : 10 ≤ d) (h16 : d < 16) : Calls Tryz.prog 132 #[.int .u8 ((87 + d : Nat) : Int)] w fun e w' => e = .returned (.int .i64 d) ∧ w' = w := by
  obtain ⟨z, hz⟩ : ∃ z : Int, ((87 + d : Nat) : Int) = z := ⟨_, rfl⟩
  have h1 : (97 : Int) ≤ z := by omega
  have h2 : z - 87 = (d : Int) := by omega
  have h3 : 0 ≤ z := by omega
  have h4 : z < 256 := by omega
  rw [hz]
  clear hz
  go_enter Tryz.func132, Tryz.ntmps132
  go_wp2
  go_ret
  exact ⟨rfl, rfl⟩
set_option maxHeartbeats 1600000 in
set_option maxRecDepth 100000 in
theorem rBytes_any (v : Value) (x : Nat) (w : World) (h : SlV w v (Is (nb x 64))) :
    Calls Tryz.prog 83 #[v] w fun e w' => ∃ v', e = .returned v' ∧ Own w' w.heap.size v' (pbytes x) ∧ Below w.heap.size w w' := by
  obtain ⟨N, hN⟩ : ∃ N, w.heap.size = N := ⟨_, rfl⟩
  have HN := Lib.hid hN
  obtain ⟨A, c, rfl, n1, n2, n3, n4⟩ := h
  rw [Is_len, nb_len] at n2 ⊢
  obtain ⟨g, o, rfl, hr⟩ := n4 (by omega)
  have HR := Lib.hid (show ∀ i wq, i < 64 → Below N w wq → wq.cell? ⟨g, o + i, none⟩ = some (.int .i64 (tb x (63 - i))) from fun i wq hi hq => by
    have hc := hr i (.int .i64 ((nb x 64).getD i 0)) (Is_get _ i (by rw [nb_len]; exact hi))
    rw [nb_at _ _ _ hi] at hc
    exact cell_below hc hq (by rw [← hN]; exact block_of_cell hc))
  clear hN n1 n4 hr
  have hL0 : Below N w w := Below.refl _ _
  have ho0 : Own w N (.slice none 0 0) ((pbytes x).take 0) := own_nil _ _
  go_enter Tryz.func83, Tryz.ntmps83
  go_wp2
  go_loopw [3, 4] (fun ov i wr => ∃ j : Nat, j ≤ 8 ∧ i = .int .i64 ((8 * j : Nat) : Int) ∧ Own wr N ov ((pbytes x).take j) ∧ Below N w wr) (fun _ i _ => 64 - (intOf i).toNat)
  case atStart => exact ⟨0, by omega, rfl, ho0, hL0⟩
  case round =>
    clear ho0 hL0
    obtain ⟨j, hj, rfl, hO, hB⟩ := hrel
    obtain ⟨i, ei⟩ : ∃ i, 8 * j = i := ⟨_, rfl⟩
    rw [ei]
    have HO := Lib.hid hO
    have HB := Lib.hid hB
    have EI := Lib.hid ei
    by_cases hlt : j < 8
    · have hi8 : i + 8 ≤ 64 := by omega
      have HLT := Lib.hid hlt
      have hi8i : (i : Int) + 8 ≤ 64 := by omega
      clear hO hB ei
      go_wp2
      go_loop [5, 6] (fun a k => ∃ q : Nat, q ≤ 8 ∧ k = .int .i64 q ∧ a = .int .i64 (accB x j q)) (fun _ k => 8 - (intOf k).toNat)
      case atStart => exact ⟨0, by omega, rfl, by rw [accB_zero]; rfl⟩
      case round =>
        obtain ⟨q, hq, rfl, rfl⟩ := hrel
        by_cases hq8 : q < 8
        · have HQ := Lib.hid hq8
          have cc := HR.out (i + q) wr (by omega) HB.out
          have hacc := accB_succ x j q (by have := EI.out; omega)
          have hlt2 := accB_lt x j q
          have hpw : 2 ^ q ≤ 2 ^ 7 := Nat.pow_le_pow_right (by decide) (by omega)
          rw [show 8 * j + q = i + q from by have := EI.out; omega] at hacc
          obtain ⟨t, ht, ht2⟩ := tb_nat x (63 - (i + q))
          rw [ht] at cc hacc
          obtain ⟨ac, hac⟩ : ∃ ac, accB x j q = ac := ⟨_, rfl⟩
          rw [hac] at hacc hlt2 ⊢
          have HACC := Lib.hid hacc
          have hac2 : ac < 128 := by omega
          clear hacc hlt2 hpw hac ht hq
          go_wp2
          go_round
          case rel => exact ⟨q + 1, HQ.out, by go_num, by rw [← HACC.out]⟩
          case measure => have := HQ.out; simp [intOf]; omega
        · obtain rfl : q = 8 := by omega
          have hby := accB_byte x j HLT.out
          have HTK := Lib.hid (pbytes_take x j HLT.out)
          have hbl := accB_lt x j 8
          obtain ⟨y, hy⟩ : ∃ y, UInt8.ofNat (x / 2 ^ (56 - 8 * j)) = y := ⟨_, rfl⟩
          rw [hy] at hby HTK
          obtain ⟨ac, hac⟩ : ∃ ac, accB x j 8 = ac := ⟨_, rfl⟩
          rw [hac] at hby hbl ⊢
          have hby2 : (ac : Int) % 256 = bv y := by rw [← hby, IntKind.wrap_u8]
          clear hac hy hbl
          go_wp2_with (at_builtin; refine append_b hu_sl hu_u8 rfl _ _ rfl N _ _ (by rfl) (HO.out.alloc _) _ [y] (by rfl) (one_slB wr y) (by rw [List.length_take]; simp; omega) (by simp; have := HB.out.size; have := HN.out; omega) ?_; intro v2 w2 hO2 hG2; have HO2 := Lib.hid hO2; have HB2 := Lib.hid (show Below N w w2 from below_own (below_alloc HB.out (by have := HB.out.size; have := HN.out; omega) _) (by simp; have := HB.out.size; have := HN.out; omega) hG2 (fun q hq => (HO.out.lt q hq).1)); clear hO2 hG2)
          go_roundw
          case rel => exact ⟨j + 1, HLT.out, by have := EI.out; congr 1; omega, by rw [HTK.out]; exact HO2.out, HB2.out⟩
          case measure => have := EI.out; have := HLT.out; simp [intOf]; omega
    · have HE := Lib.hid (show (pbytes x).take j = pbytes x from List.take_of_length_le (by rw [pbytes_len]; omega))
      have hi8i : ¬ (i : Int) + 8 ≤ 64 := by omega
      have him : i ≤ 64 := by omega
      clear hO hB ei
      go_wp2
      go_ret
      exact ⟨_, rfl, by rw [HN.out]; have := HO.out; rw [HE.out] at this; exact this, by rw [HN.out]; exact HB.out⟩
end Go.Proofs.YtbbfjlnkhenbiaaGreatDoor
set_option linter.unusedVariables false
set_option linter.unusedSimpArgs false
namespace Lk
open Go Go.RowKit
section
variable {P : Program} {ops : Array Oper} {rest : List Oper} {o : Oper} {a : Act} {w : World} {Q : Exit → Act → World → Prop}
/-- one number that has just been laid is appended, at a step of a region that leaves its order open -/
theorem step_append_i {S E : Nat} {F : Prop} {K : Act → World → Prop} (hu : P.underlying S = some (.slice E)) (hinfo : (P.info? E).map (fun i => (i.zero, i.size, i.bytes)) = some (some (.int .i64 0), 1, 8)) (hgd : o.guard = none) (s x : Operand)
    (ho : o.op = .call { callee := .builtin .append, args := #[s, x], argTypes := #[S, S] }) (base : Nat) (v : Value) (l : List Value) (n : Nat) (hn : l.length = n) (hs : a.eval s = v) (hown : OwnV w base E v l)
    (g2 : Nat) (y : Int) (hx : a.eval x = .slice (some ⟨g2, 0, none⟩) 1 1) (hm : w.cell? ⟨g2, 0, none⟩ = some (.int .i64 y)) (hlen : n + 1 ≤ 1407374883553) (hbase : base ≤ w.heap.size)
    (h : ∀ g cap w', OwnV w' base E (.slice (some ⟨g, 0, none⟩) (n + 1) cap) (l ++ [.int .i64 y]) → w.grownBy w' v.ownBlock → (v.ownBlock = some g ∨ g = w.heap.size) → K (a.put o.dst (.slice (some ⟨g, 0, none⟩) (n + 1) cap)) w') :
    if Region.wanted o (yielded ops a.tmps) = true then Oper.wp P o a w K Q else F := by
  obtain ⟨i, hi, hz, h1, h2⟩ := info_parts hinfo
  subst hn
  refine step_append_lies w hgd s x S ho base E i (.int .i64 0) 1 8 hu hi hz h1 h2 rfl (by decide) v l.length l hs hown ⟨g2, 0, none⟩ 1 1 [.int .i64 y] hx rfl ?_ (by intro u hu; simp at hu; subst hu; rfl) (by decide) (by unfold maxLen; omega) (by omega) hbase w.heap.size rfl ?_
  · intro j u hj
    obtain rfl : j = 0 := by
      have := (List.getElem?_eq_some_iff.1 hj).1
      simp at this; omega
    obtain rfl : Value.int .i64 y = u := by simpa using hj
    exact hm
  · intro g cap w' h3 h4 h5 _
    refine h g cap w' ?_ h4 h5
    unfold OwnV
    rw [List.length_append]
    exact h3
end
theorem six_ix2 (s : Nat) (hs : s < 64) : 16 * (2 * (s / 2 ^ 5 % 2) + s / 2 ^ 0 % 2) + (8 * (s / 2 ^ 4 % 2) + 4 * (s / 2 ^ 3 % 2) + 2 * (s / 2 ^ 2 % 2) + s / 2 ^ 1 % 2) = sixIx s := by
  have h : ∀ x : Fin 64, 16 * (2 * (x.val / 2 ^ 5 % 2) + x.val / 2 ^ 0 % 2) + (8 * (x.val / 2 ^ 4 % 2) + 4 * (x.val / 2 ^ 3 % 2) + 2 * (x.val / 2 ^ 2 % 2) + x.val / 2 ^ 1 % 2) = sixIx x.val := by decide +kernel
  exact h ⟨s, hs⟩
theorem nb_mix (h k i : Nat) : nb (mixTo h k (i + 1)) (4 * (i + 1)) = nb (mixTo h k i) (4 * i) ++ nb (dbox i (sixOf h k i)) 4 := by
  show nb (mixTo h k i * 16 ||| dbox i (sixOf h k i)) _ = _
  have e := or_add (mixTo h k i) (dbox i (sixOf h k i)) 4 (dbox_lt _ _)
  rw [show (16 : Nat) = 2 ^ 4 from rfl, e, show 4 * (i + 1) = 4 * i + 4 by omega, nb_app _ _ _ _ (dbox_lt _ _)]
theorem nb4 (d : Nat) : nb d 4 = [tb d 3, tb d 2, tb d 1, tb d 0] := rfl
theorem six_tb (h k i q : Nat) (hh : h < 2 ^ 32) (hi : i < 8) (hq : q < 6) : Go.bits .xor .i64 (tb h (31 - (4 * i + q + 31) % 32)) (tb k (47 - (6 * i + q))) = tb (sixOf h k i) (5 - q) := by
  rw [tb_xor, tb_bool, six_bit h k i q hh hi hq]
theorem nb_takeone (s n q : Nat) (hq : q < n) : (nb s n).take (q + 1) = (nb s n).take q ++ [tb s (n - 1 - q)] := by
  rw [take_oneI _ _ (by rw [nb_len]; exact hq), nb_at _ _ _ hq]
end Lk
namespace Go.Proofs.YtbbfjlnkhenbiaaGreatDoor
open Go.RowKit Lk
theorem le_P1 : ∀ k, k < tabP.length → 1 ≤ tabP.getD k 0 ∧ tabP.getD k 0 ≤ 32 := by decide +kernel
set_option maxHeartbeats 6400000 in
set_option maxRecDepth 100000 in
theorem rmix_any (vh vk : Value) (h k : Nat) (w : World) (hh : h < 2 ^ 32) (h1 : SlV w vh (Is (nb h 32))) (h2 : SlV w vk (Is (nb k 48))) :
    Calls Tryz.prog 107 #[vh, vk] w fun e w' => ∃ v', e = .returned v' ∧ OwnV w' w.heap.size intt v' (Is (nb (dmix h k) 32)) ∧ Below w.heap.size w w' := by
  obtain ⟨N, hN⟩ : ∃ N, w.heap.size = N := ⟨_, rfl⟩
  have HN := Lib.hid hN
  obtain ⟨A, c, rfl, m1, m2, m3, m4⟩ := h1
  obtain ⟨B, d, rfl, n1, n2, n3, n4⟩ := h2
  rw [Is_len, nb_len] at m2 n2 ⊢
  rw [Is_len, nb_len]
  obtain ⟨gh, oh, rfl, hr⟩ := m4 (by omega)
  obtain ⟨gk, ok, rfl, hs⟩ := n4 (by omega)
  have HRH := Lib.hid (show ∀ i wq, i < 32 → Below N w wq → wq.cell? ⟨gh, oh + i, none⟩ = some (.int .i64 (tb h (31 - i))) from fun i wq hi hq => by
    have hc := hr i (.int .i64 ((nb h 32).getD i 0)) (Is_get _ i (by rw [nb_len]; exact hi))
    rw [nb_at _ _ _ hi] at hc
    exact cell_below hc hq (by rw [← hN]; exact block_of_cell hc))
  have HRK := Lib.hid (show ∀ i wq, i < 48 → Below N w wq → wq.cell? ⟨gk, ok + i, none⟩ = some (.int .i64 (tb k (47 - i))) from fun i wq hi hq => by
    have hc := hs i (.int .i64 ((nb k 48).getD i 0)) (Is_get _ i (by rw [nb_len]; exact hi))
    rw [nb_at _ _ _ hi] at hc
    exact cell_below hc hq (by rw [← hN]; exact block_of_cell hc))
  have HH := Lib.hid hh
  clear m1 m4 n1 n4 hr hs hh hN
  go_enter Tryz.func107, Tryz.ntmps107
  go_wp2
  have hbx : ∀ i, i < 8 → (w.alloc (.cells boxArr 9)).cell? ⟨w.heap.size, i, none⟩ = some (.string (boxS i)) := fun i hi => cell_alloc_new w boxArr i _ (by
    match i, hi with
    | 0, _ => rfl | 1, _ => rfl | 2, _ => rfl | 3, _ => rfl | 4, _ => rfl | 5, _ => rfl | 6, _ => rfl | 7, _ => rfl)
  have hM0 : Below N w (w.alloc (.cells boxArr 9)) := below_alloc (Below.refl _ _) (by rw [HN.out]; omega) _
  have hz0 : (w.alloc (.cells boxArr 9)).heap.size = N + 1 := by show (w.heap.push _).size = _; rw [Array.size_push, HN.out]
  rw [HN.out] at hbx ⊢
  change Code.wp _ _ _ _ (w.alloc (.cells boxArr 9))
  generalize w.alloc (.cells boxArr 9) = w0 at hbx hM0 hz0 ⊢
  obtain ⟨M, eM⟩ : ∃ M, N + 1 = M := ⟨_, rfl⟩
  have hNM : N < M := by omega
  rw [eM] at hz0
  have HM0 := Lib.hid hM0
  have HZ0 := Lib.hid hz0
  have HBX := Lib.hid (show ∀ i wq, i < 8 → Below M w0 wq → wq.cell? ⟨N, 0 + i, none⟩ = some (.string (boxS i)) from fun i wq hi hq => by rw [Nat.zero_add]; exact cell_below (hbx i hi) hq hNM)
  have HNW := Lib.hid (show ∀ wq, Below M w0 wq → Below N w wq from fun wq hq => below_more hM0 hq (by omega))
  have HSZ := Lib.hid (show ∀ wq, Below M w0 wq → M ≤ wq.heap.size from fun wq hq => by have := hq.size; omega)
  clear hbx hM0 hz0 eM
  have ho0 : OwnV w0 M intt (.slice none 0 0) (Is (nb (mixTo h k 0) (4 * 0))) := ownV_nil _ _ _
  go_loopw [6, 7] (fun ov i wr => ∃ j : Nat, j ≤ 8 ∧ i = .int .i64 j ∧ OwnV wr M intt ov (Is (nb (mixTo h k j) (4 * j))) ∧ Below M w0 wr) (fun _ i _ => 8 - (intOf i).toNat)
  case atStart => exact ⟨0, by omega, rfl, ho0, Below.refl _ _⟩
  case round =>
    clear ho0
    obtain ⟨j, hj, rfl, hO, hB⟩ := hrel
    have HO := Lib.hid hO
    have HB := Lib.hid hB
    clear hO hB
    by_cases hlt : j < 8
    · have HJ := Lib.hid hlt
      obtain ⟨s, es⟩ : ∃ s, sixOf h k j = s := ⟨_, rfl⟩
      have HS := Lib.hid es
      have hsl := sixOf_lt h k j
      rw [es] at hsl
      have HSL := Lib.hid hsl
      clear es hsl
      have hti : decide ((j : Int) < 8) = true := by simp; omega
      go_wp2
      obtain ⟨wo, ewo⟩ : ∃ wo : World, wo = wr := ⟨_, rfl⟩
      subst ewo
      have ho1 : OwnV wo M intt (.slice none 0 0) (Is ((nb s 6).take 0)) := ownV_nil _ _ _
      have HOB := Lib.hid (show ∀ q, ∀ v, OwnV wo M intt v q → True from fun _ _ _ => trivial)
      clear HOB
      go_loopw [8, 9] (fun sv jj wr => ∃ q : Nat, q ≤ 6 ∧ jj = .int .i64 ((q + 1 : Nat) : Int) ∧ OwnV wr wo.heap.size intt sv (Is ((nb s 6).take q)) ∧ Below wo.heap.size wo wr) (fun _ jj _ => 7 - (intOf jj).toNat)
      case atStart => exact ⟨0, by omega, rfl, ownV_nil _ _ _, Below.refl _ _⟩
      case round =>
        clear ho1
        obtain ⟨q, hq, rfl, hO6, hB6⟩ := hrel
        have HO6 := Lib.hid hO6
        have HB6 := Lib.hid hB6
        have HBM := Lib.hid (show Below M w0 wr from below_more HB.out hB6 (HSZ.out wo HB.out))
        clear hO6 hB6
        obtain ⟨J, eJ⟩ : ∃ J, q + 1 = J := ⟨_, rfl⟩
        rw [eJ]
        have EJ := Lib.hid eJ
        by_cases hq6 : q < 6
        · have HQ := Lib.hid hq6
          obtain ⟨H, eH⟩ : ∃ H, (4 * j + q + 31) % 32 = H := ⟨_, rfl⟩
          have hH : H < 32 := by omega
          have hJ6 : J ≤ 6 := by omega
          have hJ1 : 1 ≤ J := by omega
          have cc1 := HRH.out H wr hH (HNW.out wr HBM.out)
          have cc2 := HRK.out (6 * j + q) wr (by omega) (HNW.out wr HBM.out)
          have hsx := six_tb h k j q HH.out hlt hq6
          rw [HS.out, eH] at hsx
          have HTK := Lib.hid (nb_takeone s 6 q hq6)
          obtain ⟨K1, eK1⟩ : ∃ K1, 6 * j + q = K1 := ⟨_, rfl⟩
          rw [eK1] at cc2 hsx
          rw [show 6 - 1 - q = 5 - q by omega] at HTK
          generalize tb s (5 - q) = x at hsx HTK
          generalize tb h (31 - H) = x1 at hsx cc1
          generalize tb k (47 - K1) = x2 at hsx cc2
          have hJi : (J : Int) ≤ 6 := by omega
          have hJi1 : (1 : Int) ≤ (J : Int) := by omega
          have hji : (j : Int) < 8 := by omega
          have a1 : IntKind.i64.wrap (4 * (j : Int)) = 4 * (j : Int) := IntWalk.i64_in _ (by omega)
          have a2 : IntKind.i64.wrap (4 * (j : Int) + (J : Int)) = 4 * (j : Int) + (J : Int) := IntWalk.i64_in _ (by omega)
          have a3 : IntKind.i64.wrap (4 * (j : Int) + (J : Int) - 2) = 4 * (j : Int) + (J : Int) - 2 := IntWalk.i64_in _ (by omega)
          have a4 : IntKind.i64.wrap (4 * (j : Int) + (J : Int) - 2 + 32) = 4 * (j : Int) + (J : Int) - 2 + 32 := IntWalk.i64_in _ (by omega)
          have a5 : (4 * (j : Int) + (J : Int) - 2 + 32).tmod 32 = (H : Int) := by rw [Int.tmod_eq_emod_of_nonneg (by omega)]; omega
          have a6 : IntKind.i64.wrap (6 * (j : Int)) = 6 * (j : Int) := IntWalk.i64_in _ (by omega)
          have a7 : IntKind.i64.wrap (6 * (j : Int) + (J : Int)) = 6 * (j : Int) + (J : Int) := IntWalk.i64_in _ (by omega)
          have a8 : IntKind.i64.wrap (6 * (j : Int) + (J : Int) - 1) = (K1 : Int) := by rw [IntWalk.i64_in _ (by omega)]; omega
          have a9 : (H : Int) < 32 := by omega
          have a10 : (K1 : Int) < 48 := by omega
          have HLK := Lib.hid (show (Is ((nb s 6).take q)).length = q by rw [Is_len, List.length_take, nb_len]; omega)
          have hwn := HB6.out.size
          have hq100 : q ≤ 6 := hq
          clear hq6 eH hH eK1 eJ hq hlt hj
          go_wp2
          go_region_law (refine step_append_i hu_isl hi_int (by rfl) _ _ (by rfl) wo.heap.size _ (Is ((nb s 6).take q)) q HLK.out (by rfl) (HO6.out.alloc _).drew wr.heap.size x (by rfl) (by simp) (by omega) (by simp; omega) ?_; intro g7 cap7 w7 hO7 hG7 hg7)
          all_goals
            have HB2 : Below wo.heap.size wo w7 := below_own (below_alloc HB6.out HB6.out.size _).drew (by simp; omega) hG7 (fun q hq => (HO6.out.lt q hq).1)
            clear a1 a2 a3 a4 a5 a6 a7 a8 cc1 cc2
            go_wp2
            go_roundw
            case rel => exact ⟨q + 1, by have := HQ.out; omega, by have := EJ.out; congr 1; omega, by rw [HTK.out, Is_app]; exact hO7, HB2⟩
            case measure => have := HQ.out; have := EJ.out; simp [intOf]; omega
        · obtain rfl : q = 6 := by omega
          obtain rfl : J = 7 := by omega
          have hO6 := HO6.out
          rw [List.take_of_length_le (by rw [nb_len]; exact Nat.le_refl _)] at hO6
          obtain ⟨g6, c6, rfl, hg6, hgs6, hr6, hc6, hc6m⟩ := hO6.form (by rw [Is_len, nb_len]; decide)
          rw [Is_len, nb_len] at hc6 hO6 ⊢
          have cb : ∀ i, i < 6 → wr.cell? ⟨g6, i, none⟩ = some (.int .i64 (tb s (5 - i))) := fun i hi => by
            have := hr6 i (.int .i64 ((nb s 6).getD i 0)) (Is_get _ i (by rw [nb_len]; exact hi))
            rw [nb_at _ _ _ hi, Nat.zero_add] at this
            exact this
          have c0 := cb 0 (by decide)
          have c1 := cb 1 (by decide)
          have c2 := cb 2 (by decide)
          have c3 := cb 3 (by decide)
          have c4 := cb 4 (by decide)
          have c5 := cb 5 (by decide)
          clear cb hr6
          obtain ⟨b5, e5, l5⟩ := tb_nat s 5
          obtain ⟨b4, e4, l4⟩ := tb_nat s 4
          obtain ⟨b3, e3, l3⟩ := tb_nat s 3
          obtain ⟨b2, e2, l2⟩ := tb_nat s 2
          obtain ⟨b1, e1, l1⟩ := tb_nat s 1
          obtain ⟨b0, e0, l0⟩ := tb_nat s 0
          have hsix := six_ix2 s HSL.out
          unfold tb at e5 e4 e3 e2 e1 e0
          simp only [Int.natCast_inj] at e5 e4 e3 e2 e1 e0
          rw [e5, e4, e3, e2, e1, e0] at hsix
          have f5 : tb s 5 = (b5 : Int) := by unfold tb; rw [e5]
          have f4 : tb s 4 = (b4 : Int) := by unfold tb; rw [e4]
          have f3 : tb s 3 = (b3 : Int) := by unfold tb; rw [e3]
          have f2 : tb s 2 = (b2 : Int) := by unfold tb; rw [e2]
          have f1 : tb s 1 = (b1 : Int) := by unfold tb; rw [e1]
          have f0 : tb s 0 = (b0 : Int) := by unfold tb; rw [e0]
          rw [show (5 : Nat) - 0 = 5 from rfl, f5] at c0
          rw [show (5 : Nat) - 1 = 4 from rfl, f4] at c1
          rw [show (5 : Nat) - 2 = 3 from rfl, f3] at c2
          rw [show (5 : Nat) - 3 = 2 from rfl, f2] at c3
          rw [show (5 : Nat) - 4 = 1 from rfl, f1] at c4
          rw [show (5 : Nat) - 5 = 0 from rfl, f0] at c5
          clear f5 f4 f3 f2 f1 f0 e5 e4 e3 e2 e1 e0
          have HO6x := Lib.hid hO6
          have HSIX := Lib.hid hsix
          clear hO6 hsix HO6
          obtain ⟨R, eR⟩ : ∃ R, 2 * b5 + b0 = R := ⟨_, rfl⟩
          obtain ⟨C, eC⟩ : ∃ C, 8 * b4 + 4 * b3 + 2 * b2 + b1 = C := ⟨_, rfl⟩
          have u1 : IntKind.i64.wrap (2 * (b5 : Int)) = 2 * (b5 : Int) := IntWalk.i64_in _ (by omega)
          have u2 : IntKind.i64.wrap (2 * (b5 : Int) + (b0 : Int)) = (R : Int) := by rw [IntWalk.i64_in _ (by omega)]; omega
          have HL1 := Lib.hid (show b4 < 2 ∧ b3 < 2 ∧ b2 < 2 ∧ b1 < 2 from ⟨l4, l3, l2, l1⟩)
          have HEC := Lib.hid eC
          have HER := Lib.hid eR
          have hR : R < 4 := by omega
          have hC : C < 16 := by omega
          clear eC eR l5 l4 l3 l2 l1 l0
          go_wp2
          go_quiet (fail)
          have hLa : Below wo.heap.size wo (wr.drewN nq) := below_more HB6.out (Drawn.below0 ⟨nq, rfl⟩) HB6.out.size
          have hLb : Below M w0 (wr.drewN nq) := below_more HBM.out (Drawn.below0 ⟨nq, rfl⟩) (HSZ.out wr HBM.out)
          have d1 : (wr.drewN nq).cell? ⟨g6, 1, none⟩ = _ := c1
          have d2 : (wr.drewN nq).cell? ⟨g6, 2, none⟩ = _ := c2
          have d3 : (wr.drewN nq).cell? ⟨g6, 3, none⟩ = _ := c3
          have d4 : (wr.drewN nq).cell? ⟨g6, 4, none⟩ = _ := c4
          clear c0 c1 c2 c3 c4 c5 u1 u2
          generalize wr.drewN nq = wa at hLa hLb d1 d2 d3 d4 ⊢
          obtain ⟨l4, l3, l2, l1⟩ := HL1.out
          have u3 : IntKind.i64.wrap (8 * (b4 : Int)) = 8 * (b4 : Int) := IntWalk.i64_in _ (by omega)
          have u4 : IntKind.i64.wrap (4 * (b3 : Int)) = 4 * (b3 : Int) := IntWalk.i64_in _ (by omega)
          have u5 : IntKind.i64.wrap (2 * (b2 : Int)) = 2 * (b2 : Int) := IntWalk.i64_in _ (by omega)
          have u6 : IntKind.i64.wrap (8 * (b4 : Int) + 4 * (b3 : Int)) = 8 * (b4 : Int) + 4 * (b3 : Int) := IntWalk.i64_in _ (by omega)
          have u7 : IntKind.i64.wrap (8 * (b4 : Int) + 4 * (b3 : Int) + 2 * (b2 : Int)) = 8 * (b4 : Int) + 4 * (b3 : Int) + 2 * (b2 : Int) := IntWalk.i64_in _ (by omega)
          have u8 : IntKind.i64.wrap (8 * (b4 : Int) + 4 * (b3 : Int) + 2 * (b2 : Int) + (b1 : Int)) = (C : Int) := by rw [IntWalk.i64_in _ (by omega)]; have := HEC.out; omega
          have HLa := Lib.hid hLa
          have HLb := Lib.hid hLb
          clear l4 l3 l2 l1 hLa hLb
          go_wp2
          go_quiet (fail)
          have hLa : Below wo.heap.size wo (wa.drewN nq) := below_more HLa.out (Drawn.below0 ⟨nq, rfl⟩) HLa.out.size
          have hLb : Below M w0 (wa.drewN nq) := below_more HLb.out (Drawn.below0 ⟨nq, rfl⟩) (HSZ.out wa HLb.out)
          clear u3 u4 u5 u6 u7 u8 d1 d2 d3 d4
          generalize wa.drewN nq = wb at hLa hLb ⊢
          -- the box
          obtain ⟨jx, ejx⟩ : ∃ jx, sixIx s = jx := ⟨_, rfl⟩
          have hjx : jx < 64 := by rw [← ejx]; exact sixIx_lt s HSL.out
          have hix : 16 * (R : Int) + (C : Int) = (jx : Int) := by have := HSIX.out; have := HEC.out; have := HER.out; omega
          have hbb := hex_box j HJ.out
          have hsz : (boxS j).size = 64 := hbb.1
          have hch := hbb.2 jx hjx
          have hdd : (boxTab.getD j []).getD jx 0 = dbox j s := by rw [← ejx]; rfl
          rw [hdd] at hch
          have HNB := Lib.hid (nb_mix h k j)
          rw [HS.out] at HNB
          have hd16 := dbox_lt j s
          obtain ⟨dd, edd⟩ : ∃ dd, dbox j s = dd := ⟨_, rfl⟩
          rw [edd] at hch HNB hd16
          have cbx := HBX.out j wb HJ.out hLb
          rw [Nat.zero_add] at cbx
          obtain ⟨sb, esb⟩ : ∃ sb, boxS j = sb := ⟨_, rfl⟩
          rw [esb] at hch hsz cbx
          obtain ⟨cc, ecc⟩ : ∃ cc, (if dd < 10 then 48 + dd else 87 + dd) = cc := ⟨_, rfl⟩
          have hc : ∀ hx : jx < sb.size, (sb[jx]'hx).toNat = cc := fun hx => by rw [(hch hx).1, ecc]
          have hjz : (jx : Int) < (sb.size : Int) := by omega
          have HDG := Lib.hid (show ∀ wq : World, Calls Tryz.prog 132 #[.int .u8 (cc : Int)] wq fun e w' => e = .returned (.int .i64 dd) ∧ w' = wq from fun wq => by
            by_cases h10 : dd < 10
            · rw [if_pos h10] at ecc; rw [← ecc]; exact digit_lo dd wq h10
            · rw [if_neg h10] at ecc; rw [← ecc]; exact digit_hi dd wq (by omega) hd16)
          have v3 : (dd : Int) / 8 % 2 = tb dd 3 := by unfold tb; omega
          have v2 : (dd : Int) / 4 % 2 = tb dd 2 := by unfold tb; omega
          have v1 : (dd : Int) / 2 % 2 = tb dd 1 := by unfold tb; omega
          have v0 : (dd : Int) % 2 = tb dd 0 := by unfold tb; omega
          rw [nb4] at HNB
          generalize tb dd 3 = t3 at v3 HNB
          generalize tb dd 2 = t2 at v2 HNB
          generalize tb dd 1 = t1 at v1 HNB
          generalize tb dd 0 = t0 at v0 HNB
          have HOu := Lib.hid (HO.out.under (show Below wo.heap.size wo wb from hLa))
          have HLa2 := Lib.hid hLa
          have HLb2 := Lib.hid hLb
          clear ejx hbb hch hdd edd esb ecc hLa hLb hjx
          go_wp2_with (first
            | (go_at_call 132; refine (HDG.out _).mono ?_; rintro e wb ⟨rfl, rfl⟩)
            | (at_builtin; refine append_v hu_isl hi_int (by decide) (by decide) rfl rfl _ _ rfl M _ _ (by rfl) (HOu.out.alloc _) _ [.int .i64 t3, .int .i64 t2, .int .i64 t1, .int .i64 t0] (by rfl) (slV_lit _ [.int .i64 t3, .int .i64 t2, .int .i64 t1, .int .i64 t0] 4 _ rfl (by decide)) (Is_one [t3, t2, t1, t0]) (by rw [Is_len, nb_len]; simp; omega) (by simp; have := HSZ.out wb HLb2.out; omega) ?_; intro v2 w5 hO5 hG5; have HO5 := Lib.hid hO5; have HB5 := Lib.hid (show Below M w0 w5 from below_own (below_alloc HLb2.out (HSZ.out wb HLb2.out) _) (by simp; have := HSZ.out wb HLb2.out; omega) hG5 (fun q hq => (HOu.out.lt q hq).1)); clear hO5 hG5))
          go_roundw
          case rel => exact ⟨j + 1, HJ.out, by go_num, by rw [HNB.out, Is_app]; exact HO5.out, HB5.out⟩
          case measure => have := HJ.out; simp [intOf]; omega
    · obtain rfl : j = 8 := by omega
      have HMM := Lib.hid (show lperm (nb (mixTo h k 8) (4 * 8)) tabP = nb (dmix h k) 32 from by
        rw [show 4 * 8 = 32 from rfl, lperm_nb _ 32 tabP le_P1, len_P]; rfl)
      go_wp2_with (go_at_call 106; refine (rperm_any _ (nb (mixTo h k 8) (4 * 8)) strP tabP wr HO.out.slV tells_P (by rw [len_P]; decide) (by rw [nb_len]; exact le_P1) (by rw [nb_len]; decide)).mono ?_; rintro e w9 ⟨v9, rfl, hO9, hL9⟩; rw [HMM.out] at hO9)
      go_ret
      have hsz := HSZ.out wr HB.out
      exact ⟨_, rfl, by rw [HN.out]; exact hO9.lower (by omega), by rw [HN.out]; exact below_more (HNW.out wr HB.out) hL9 (by omega)⟩
end Go.Proofs.YtbbfjlnkhenbiaaGreatDoor
set_option linter.unusedVariables false
set_option linter.unusedSimpArgs false
namespace Lk
open Go Go.RowKit
theorem Is_take (l : List Int) (n : Nat) : (Is l).take n = Is (l.take n) := by unfold Is; rw [List.map_take]
theorem OwnV.ne_type {w : World} {b1 b2 E1 E2 : Nat} {v1 v2 : Value} {l1 l2 : List Value} (h1 : OwnV w b1 E1 v1 l1) (h2 : OwnV w b2 E2 v2 l2) (hne : E1 ≠ E2) : v1.ownBlock = none ∨ v1.ownBlock ≠ v2.ownBlock := by
  rcases h1.2 with ⟨rfl, _⟩ | ⟨g, cap, cur, rfl, hb, hg, _⟩
  · exact .inl rfl
  · rcases h2.2 with ⟨rfl, _⟩ | ⟨g', cap', cur', rfl, hb', hg', _⟩
    · exact .inr (by simp [Value.ownBlock])
    · refine .inr fun e => hne ?_
      have : g = g' := by simpa [Value.ownBlock] using e
      subst this
      rw [hg] at hg'
      injection hg' with h; injection h
theorem OwnV.cap {w : World} {base E g L c : Nat} {l : List Value} (h : OwnV w base E (.slice (some ⟨g, 0, none⟩) L c) l) (hl : l.length = L) : L ≤ c ∧ c ≤ maxLen := by
  obtain ⟨A, c', e, h1, h2, h3, _⟩ := h.slV
  cases e; exact ⟨by omega, h3⟩
section
variable {P : Program} {ops : Array Oper} {rest : List Oper} {o : Oper} {a : Act} {w : World} {Q : Exit → Act → World → Prop} {K : Act → World → Prop} {i : Nat}
theorem wpOp_append_v {S E B : Nat} {z : Value} (hi : ops[i]? = some o) (hw : Region.wanted o (yielded ops a.tmps) = true) (hu : P.underlying S = some (.slice E)) (hinfo : (P.info? E).map (fun i => (i.zero, i.size, i.bytes)) = some (some z, 1, B)) (hB1 : 1 ≤ B) (hB2 : B ≤ 100) (hz1 : z.cells.size = 1) (s x : Operand)
    (ho : o.op = .call { callee := .builtin .append, args := #[s, x], argTypes := #[S, S] }) (base : Nat) (v : Value) (l : List Value) (hs : a.eval s = v) (hown : OwnV w base E v l)
    (ad : Addr) (k c : Nat) (m : List Value) (hx : a.eval x = .slice (some ad) k c) (hm : SlV w (.slice (some ad) k c) m) (hone : ∀ u ∈ m, u.oneCell' = true) (hlen : l.length + m.length ≤ 1407374883553) (hbase : base ≤ w.heap.size)
    (h : ∀ v' w', OwnV w' base E v' (l ++ m) → w.grownBy w' v.ownBlock → K (a.put o.dst v') w') : wpOp P ops Q i K a w := by
  unfold Go.wpOp
  simp only [hi, hw, if_true]
  refine .inl ?_
  obtain ⟨ti, hti, hz, h1, h2⟩ := info_parts hinfo
  obtain ⟨A, c', e, n1, n2, n3, n4⟩ := hm
  cases e
  have hnews : ∀ j u, m[j]? = some u → w.cell? (ad.add j) = some u := by
    intro j u hj
    have hjl : j < m.length := (List.getElem?_eq_some_iff.1 hj).1
    obtain ⟨g, o', e, hr⟩ := n4 (by omega)
    cases e
    have : (⟨g, o', none⟩ : Addr).add j = ⟨g, o' + j, none⟩ := by unfold Addr.add; split <;> simp_all
    rw [this]
    exact hr j u hj
  refine wp_append_own w s x S ho base E ti z 1 B hu hti hz h1 h2 hz1 (by decide) v l.length l hs hown ad m.length c m hx (by rw [Nat.mul_one]) hnews hone (by unfold maxLen; omega) (by
      have : (l.length + m.length) * B ≤ 1407374883553 * 100 := Nat.mul_le_mul hlen hB2
      omega) hbase ?_
  intro v' w' h3 h4 _
  refine h v' w' ?_ h4
  unfold OwnV
  rw [List.length_append]
  exact h3
end
theorem gN_dkeys (b : List UInt8) (r : Nat) (hr : r < 16) : gN (dkeys b) r = dkeyOf (perm (num b) 64 tabPC1) r := by
  unfold gN dkeys keysTo
  rw [List.getD_eq_getElem?_getD, List.getElem?_map, List.getElem?_range hr, Option.map_some, Option.getD_some, if_pos hr]
theorem nb_cd0 (x : Nat) : (nb x 56).take 28 = nb (cdTo x 0).1 28 ∧ (nb x 56).drop 28 = nb (cdTo x 0).2 28 := by
  refine ⟨?_, ?_⟩
  · rw [show (56 : Nat) = 28 + 28 from rfl, nb_take]
    show nb (x / 2 ^ 28) 28 = nb (cdTo x 0).1 28
    unfold cdTo; rfl
  · rw [show (56 : Nat) = 28 + 28 from rfl, nb_drop]
    refine nb_congr fun i hi => ?_
    have e : (cdTo x 0).2 = x &&& 268435455 := by unfold cdTo; rfl
    rw [e, Nat.testBit_and, show (268435455 : Nat) = 2 ^ 28 - 1 from rfl, Nat.testBit_two_pow_sub_one]
    simp [hi]
theorem nb_key (x r : Nat) (hx : x < 2 ^ 56) : lperm (nb (cdTo x (r + 1)).1 28 ++ nb (cdTo x (r + 1)).2 28) tabPC2 = nb (dkeyOf x r) 48 := by
  have h2 := (cdTo_lt x (r + 1) hx).2
  rw [← nb_app _ _ 28 28 h2, ← or_add _ _ 28 h2]
  have hle : ∀ k, k < tabPC2.length → 1 ≤ tabPC2.getD k 0 ∧ tabPC2.getD k 0 ≤ 56 := by decide +kernel
  have e : lperm (nb ((cdTo x (r + 1)).1 * 2 ^ 28 ||| (cdTo x (r + 1)).2) 56) tabPC2 = nb (dkeyOf x r) 48 := by
    rw [lperm_nb _ 56 tabPC2 hle, len_PC2]
    unfold dkeyOf; rfl
  exact e
end Lk
namespace Go.Proofs.YtbbfjlnkhenbiaaGreatDoor
open Go Go.RowKit Lk
section
variable {ops : Array Oper} {o : Oper} {a : Act} {w : World}
theorem run_islen (w : World) : (sizeOf (Tryz.prog.elem islt) : Sem Nat).run Tryz.prog w = .ok 1 w := by kernel_rfl
theorem huil : Tryz.prog.underlying islt = some (.slice (Tryz.prog.elem islt)) := by kernel_rfl
theorem yields_from {S : World → Prop} (hw : Region.wanted o (yielded ops a.tmps) = true) (x lo : Operand) (ho : o.op = .slice islt x (some lo) none none) (g k L c n : Nat) (hx : a.eval x = .slice (some ⟨g, k, none⟩) L c) (hlo : a.eval lo = .int .i64 n) (h1 : n ≤ L) (h2 : L ≤ c) (hc : ¬ c = n) : YieldsIf Tryz.prog ops S o (.slice (some ⟨g, k + n, none⟩) (L - n) (c - n)) a := .inl ⟨hw, fun w hS => by
    unfold execOp
    simp only [ho, hx, hlo, Option.map_some, Option.map_none]
    rw [Sem.run_bind, run_sliceAt_slice w islt _ _ _ _ huil, run_slice_l w islt _ _ _ huil .i64 (n : Int) (by omega) (by omega), run_islen]
    simp only [Result.andThen_ok, Sem.run_pure, sliced, Int.toNat_natCast, if_neg hc, Option.map_some, Nat.mul_one]
    rw [show (⟨g, k, none⟩ : Addr).add n = ⟨g, k + n, none⟩ from by unfold Addr.add; split <;> simp_all]⟩
theorem yields_to {S : World → Prop} (hw : Region.wanted o (yielded ops a.tmps) = true) (x hi : Operand) (ho : o.op = .slice islt x none (some hi) none) (g k L c n : Nat) (hx : a.eval x = .slice (some ⟨g, k, none⟩) L c) (hhi : a.eval hi = .int .i64 n) (h1 : n ≤ c) : YieldsIf Tryz.prog ops S o (.slice (some ⟨g, k, none⟩) n c) a := .inl ⟨hw, fun w hS => by
    unfold execOp
    simp only [ho, hx, hhi, Option.map_some, Option.map_none]
    rw [Sem.run_bind, run_sliceAt_slice w islt _ _ _ _ huil, run_slice_h w islt _ _ _ huil .i64 (n : Int) (by omega) (by omega), run_islen]
    simp [Result.andThen_ok, Sem.run_pure, sliced]
    intro _; unfold Addr.add; split <;> simp_all⟩
end
def isslt : Nat := 180
theorem hu_issl : Tryz.prog.underlying isslt = some (.slice islt) := by kernel_rfl
theorem hi_isl : (Tryz.prog.info? islt).map (fun i => (i.zero, i.size, i.bytes)) = some (some (.slice none 0 0), 1, 24) := by kernel_rfl
theorem le_PC1b : ∀ k, k < tabPC1.length → 1 ≤ tabPC1.getD k 0 ∧ tabPC1.getD k 0 ≤ 64 := by decide +kernel
theorem le_PC2b : ∀ k, k < tabPC2.length → 1 ≤ tabPC2.getD k 0 ∧ tabPC2.getD k 0 ≤ 28 + 28 := by decide +kernel
/-- rows of round keys -/
def KRows (w : World) (base : Nat) (vs : List Value) (x r : Nat) : Prop := vs.length = r ∧ ∀ i, i < r → ∃ u, vs[i]? = some u ∧ OwnV w base intt u (Is (nb (dkeyOf x i) 48))
theorem KRows.under {w w1 : World} {base : Nat} {vs : List Value} {x r : Nat} (h : KRows w base vs x r) (hL : Below w.heap.size w w1) : KRows w1 base vs x r :=
  ⟨h.1, fun i hi => by obtain ⟨u, h1, h2⟩ := h.2 i hi; exact ⟨u, h1, h2.under hL⟩⟩
theorem KRows.kept {w w1 : World} {base b2 : Nat} {vs l : List Value} {x r : Nat} {v : Value} (h : KRows w base vs x r) (hO : OwnV w b2 islt v l) (hG : w.grownBy w1 v.ownBlock) : KRows w1 base vs x r :=
  ⟨h.1, fun i hi => by obtain ⟨u, h1, h2⟩ := h.2 i hi; exact ⟨u, h1, h2.kept hG (h2.ne_type hO (by decide))⟩⟩
theorem KRows.snoc {w : World} {base : Nat} {vs : List Value} {x r : Nat} {u : Value} (h : KRows w base vs x r) (hu : OwnV w base intt u (Is (nb (dkeyOf x r) 48))) : KRows w base (vs ++ [u]) x (r + 1) :=
  ⟨by rw [List.length_append, h.1]; rfl, fun i hi => by
    by_cases e : i = r
    · subst e; exact ⟨u, by rw [List.getElem?_append_right (by rw [h.1]; exact Nat.le_refl _), h.1, Nat.sub_self]; rfl, hu⟩
    · obtain ⟨u', h1, h2⟩ := h.2 i (by omega)
      exact ⟨u', by rw [List.getElem?_append_left (by rw [h.1]; omega)]; exact h1, h2⟩⟩
/-- what Keys hands out -/
def KeysOut (w : World) (key : List UInt8) (e : Ending) (w' : World) : Prop :=
  ∃ v vs, e = .returned v ∧ OwnV w' w.heap.size islt v vs ∧ KRows w' w.heap.size vs (perm (num key) 64 tabPC1) 16 ∧ Below w.heap.size w w'
set_option maxHeartbeats 12800000 in
set_option maxRecDepth 100000 in
theorem Keys_any (v : Value) (key : List UInt8) (w : World) (h : SlB w v key) (hk : key.length = 8) :
    Calls Tryz.prog 105 #[v] w (KeysOut w key) := by
  obtain ⟨N, hN⟩ : ∃ N, w.heap.size = N := ⟨_, rfl⟩
  have HN := Lib.hid hN
  have HBT := Lib.hid (Bits_any v key w h (by omega))
  rw [pbits_num key hk] at HBT
  obtain ⟨x, hx⟩ : ∃ x, perm (num key) 64 tabPC1 = x := ⟨_, rfl⟩
  have HX := Lib.hid hx
  have HXL := Lib.hid (show x < 2 ^ 56 by rw [← hx]; exact perm_PC1_lt _)
  have HP1 := Lib.hid (show lperm (nb (num key) 64) tabPC1 = nb x 56 by rw [lperm_nb _ 64 tabPC1 le_PC1b, len_PC1, hx])
  obtain ⟨A, c, rfl, _⟩ := h
  clear hN hx hk
  go_enter Tryz.func105, Tryz.ntmps105
  go_wp2_with (first
    | (go_at_call 82; refine HBT.out.mono ?_; rintro e w1 ⟨v1, rfl, hO1, hL1⟩; have HO1 := Lib.hid hO1; have HL1 := Lib.hid hL1; obtain ⟨A1, c1, rfl, _⟩ := hO1.formc (by rw [Is_len, nb_len]); clear hO1 hL1)
    | (go_at_call 106; (with_reducible show Calls _ _ _ w1 _); refine (rperm_any _ (nb (num key) 64) strPC1 tabPC1 w1 HO1.out.slV tells_PC1 (by rw [len_PC1]; decide) (by rw [nb_len]; exact le_PC1b) (by rw [nb_len]; decide)).mono ?_; rintro e w2 ⟨v2, rfl, hO2, hL2⟩; rw [HP1.out] at hO2; have HL2 := Lib.hid (below_more HL1.out hL2 HL1.out.size); obtain ⟨g2, c2, e2, hg2, _, _, hc2, hc2m⟩ := hO2.form (by rw [Is_len, nb_len]; decide); rw [Is_len, nb_len] at e2 hc2; subst e2; have HO2 := Lib.hid hO2; have k1 : ¬ c2 = 28 := (by omega); have k2 : (28 : Int) ≤ (c2 : Int) := (by omega); have k3 : (28 : Int) ≤ 56 := (by decide); clear hO2 hL2))
  have hsC := HO2.out.slV.take (n := 28) (by rw [Is_len, nb_len]; decide)
  have hsD := HO2.out.slV.drop (k := 28) (by rw [Is_len, nb_len]; decide)
  rw [Is_take, (nb_cd0 x).1] at hsC
  rw [Is_drop, (nb_cd0 x).2, Nat.zero_add] at hsD
  have HSC := Lib.hid hsC
  have HSD := Lib.hid hsD
  have hd28 : 28 ≤ c2 - 28 := by omega
  have hm1 : c2 ≤ maxLen := hc2m
  have HKR := Lib.hid (show KRows w2 N [] x 0 from ⟨rfl, fun i hi => absurd hi (by omega)⟩)
  have HM2 := Lib.hid (show Below N w w2 by have := HL2.out; rw [HN.out] at this; exact this)
  clear hsC hsD k1 k2 k3
  go_loopw [4, 5, 6, 7] (fun cv dv ov i wr => ∃ (r : Nat) (vs : List Value) (gc oc cc gd od cd : Nat), r ≤ 16 ∧ i = .int .i64 ((r + 1 : Nat) : Int) ∧ cv = .slice (some ⟨gc, oc, none⟩) 28 cc ∧ dv = .slice (some ⟨gd, od, none⟩) 28 cd ∧ 28 ≤ cc ∧ 28 ≤ cd ∧ cc ≤ maxLen ∧ cd ≤ maxLen ∧ SlV wr (.slice (some ⟨gc, oc, none⟩) 28 cc) (Is (nb (cdTo x r).1 28)) ∧ SlV wr (.slice (some ⟨gd, od, none⟩) 28 cd) (Is (nb (cdTo x r).2 28)) ∧ OwnV wr N islt ov vs ∧ KRows wr N vs x r ∧ Below N w wr) (fun _ _ _ i _ => 17 - (intOf i).toNat)
  case atStart => exact ⟨0, [], _, _, _, _, _, _, by omega, rfl, rfl, rfl, by omega, by omega, by omega, by omega, HSC.out, HSD.out, ownV_nil _ _ _, HKR.out, HM2.out⟩
  case round =>
    clear HSC HSD HKR HM2 HO2 hd28 hm1 hc2m hc2 hg2
    obtain ⟨r, vs, gc, oc, cc, gd, od, cd, hr, rfl, rfl, rfl, hcc, hcd, hccm, hcdm, hC, hD, hO, hK, hB⟩ := hrel
    have HC := Lib.hid hC
    have HD := Lib.hid hD
    have HO := Lib.hid hO
    have HKR := Lib.hid hK
    have HB := Lib.hid hB
    have HWN := Lib.hid (show N ≤ wr.heap.size by have := hB.size; have := HN.out; omega)
    obtain ⟨Z, eZ⟩ : ∃ Z, r + 1 = Z := ⟨_, rfl⟩
    rw [eZ]
    have EZ := Lib.hid eZ
    clear hC hD hO hK hB
    by_cases hlt : r < 16
    · have HLT := Lib.hid hlt
      obtain ⟨lc, ld⟩ := cdTo_lt x r HXL.out
      have hZ16 : (Z : Int) ≤ 16 := by omega
      have hZ0 : Z ≤ 16 := by omega
      have HNR := Lib.hid (show lperm (nb (cdTo x (r + 1)).1 28 ++ nb (cdTo x (r + 1)).2 28) tabPC2 = nb (dkeyOf x r) 48 from nb_key x r HXL.out)
      rcases (show (r = 0 ∨ r = 1 ∨ r = 8 ∨ r = 15) ∨ (r ≠ 0 ∧ r ≠ 1 ∧ r ≠ 8 ∧ r ≠ 15) by omega) with (h0 | h0 | h0 | h0) | h0
      · have f1 : ((Z : Int) == 1) = true := by simp; omega
        have H0 := Lib.hid h0
        have HLC := Lib.hid lc
        have HLD := Lib.hid ld
        clear eZ hlt hr
        go_wp2
        clear f1
        have hdra : Below wr.heap.size wr wr.drew := below_drew _
        have hdsa : wr.drew.heap.size = wr.heap.size := rfl
        refine wp_region_held (S := fun w9 => Below wr.heap.size wr w9) (by kernel_rfl) ?_
        show wpAnyH _ _ _ _ _ 10 _ _ wr.drew
        obtain ⟨ua0, eua⟩ : ∃ u0, wr.drew = u0 := ⟨_, rfl⟩
        rw [eua] at hdra hdsa ⊢
        refine wpAnyH_take (i := 1) rfl (by kernel_rfl) (by kernel_rfl) (by kernel_rfl) (fun _ _ _ h => h) (yields_val (by kernel_rfl) (.slice (some ⟨gc, oc, none⟩) 28 cc) (fun w => by kernel_rfl)) hdra ?_
        refine wpAnyH_take (i := 2) rfl (by kernel_rfl) (by kernel_rfl) (by kernel_rfl) (fun _ _ _ h => h) (yields_val (by kernel_rfl) (.int .i64 1) (fun w => by kernel_rfl)) hdra ?_
        refine wpAnyH_take (i := 3) rfl (by kernel_rfl) (by kernel_rfl) (by kernel_rfl) (fun _ _ _ h => h) (yields_from (by kernel_rfl) _ _ rfl gc oc 28 cc 1 (by kernel_rfl) (by kernel_rfl) (by decide) (by omega) (by omega)) hdra ?_
        refine wpAnyH_take (i := 5) rfl (by kernel_rfl) (by kernel_rfl) (by kernel_rfl) (fun _ _ _ h => h) (yields_val (by kernel_rfl) (.slice (some ⟨gc, oc, none⟩) 28 cc) (fun w => by kernel_rfl)) hdra ?_
        refine wpAnyH_take (i := 6) rfl (by kernel_rfl) (by kernel_rfl) (by kernel_rfl) (fun _ _ _ h => h) (yields_val (by kernel_rfl) (.int .i64 1) (fun w => by kernel_rfl)) hdra ?_
        refine wpAnyH_take (i := 7) rfl (by kernel_rfl) (by kernel_rfl) (by kernel_rfl) (fun _ _ _ h => h) (yields_to (by kernel_rfl) _ _ rfl gc oc 28 cc 1 (by kernel_rfl) (by kernel_rfl) (by omega)) hdra ?_
        refine wpAnyH_all (rs := [0]) (by kernel_rfl) (by decide) ?_
        intro i0 hi0
        obtain rfl : i0 = 0 := by simpa using hi0
        refine wpOp_run rfl (by kernel_rfl) (.slice (some ⟨ua0.heap.size, 0, none⟩) 0 0) (ua0.alloc (.cells #[] intt)) (by kernel_rfl) ?_
        have hS1a : Below wr.heap.size wr (ua0.alloc (.cells #[] intt)) := below_alloc hdra (by omega) _
        have hQ1a := ownV_lit0 ua0 wr.heap.size intt (Nat.le_of_eq hdsa.symm)
        have hz1a : wr.heap.size ≤ (ua0.alloc (.cells #[] intt)).heap.size := by simp; omega
        obtain ⟨gaa, egaa⟩ : ∃ g, ua0.heap.size = g := ⟨_, rfl⟩
        rw [egaa] at hQ1a ⊢
        generalize ua0.alloc (.cells #[] intt) = ua1 at hS1a hQ1a hz1a ⊢
        refine ⟨hS1a, ?_⟩
        refine wpAnyH_all (rs := [4]) (by kernel_rfl) (by decide) ?_
        intro i1 hi1
        obtain rfl : i1 = 4 := by simpa using hi1
        refine wpOp_append_v rfl (by kernel_rfl) hu_isl hi_int (by decide) (by decide) rfl _ _ rfl wr.heap.size _ [] (by kernel_rfl) hQ1a _ _ _ ((Is (nb (cdTo x r).1 28)).drop 1) (by kernel_rfl) ((HC.out.below (hS1a)).drop (by rw [Is_len, nb_len]; decide)) (by rw [Is_drop]; exact Is_one _) (by simp [Is_len, nb_len]) hz1a ?_
        intro vaa ua2 hQ2a hG2a
        rw [List.nil_append] at hQ2a
        have hS2a : Below wr.heap.size wr ua2 := below_own hS1a hz1a hG2a (fun q hq => (hQ1a.lt q hq).1)
        have hz2a : wr.heap.size ≤ ua2.heap.size := hS2a.size
        refine ⟨hS2a, ?_⟩
        refine wpAnyH_all (rs := [8]) (by kernel_rfl) (by decide) ?_
        intro i2 hi2
        obtain rfl : i2 = 8 := by simpa using hi2
        refine wpOp_append_v rfl (by kernel_rfl) hu_isl hi_int (by decide) (by decide) rfl _ _ rfl wr.heap.size _ ((Is (nb (cdTo x r).1 28)).drop 1) (by kernel_rfl) hQ2a _ _ _ ((Is (nb (cdTo x r).1 28)).take 1) (by kernel_rfl) ((HC.out.below (hS2a)).take (by rw [Is_len, nb_len]; decide)) (by rw [Is_take]; exact Is_one _) (by simp [Is_len, nb_len]) hz2a ?_
        intro vba ua3 hQ3a hG3a
        have hS3a : Below wr.heap.size wr ua3 := below_own hS2a hz2a hG3a (fun q hq => (hQ2a.lt q hq).1)
        refine ⟨hS3a, ?_⟩
        rw [Is_drop, Is_take, ← Is_app, nb_rot _ 1 (lc) (by decide)] at hQ3a
        have hRa : OwnV ua3 wr.heap.size intt vba (Is (nb (cdTo x (r + 1)).1 28)) := by have e : shOf r = 1 := (by unfold shOf; first | (rw [if_pos (by omega)]) | (rw [if_neg (by omega)])); show OwnV _ _ _ _ (Is (nb (rot28 (cdTo x r).1 (shOf r)) 28)); rw [e]; exact hQ3a
        obtain ⟨gna, cna, ena, hgna, _, _, hcna, hcma⟩ := hRa.form (by rw [Is_len, nb_len]; decide)
        rw [Is_len, nb_len] at ena hcna
        subst ena
        refine wpAnyH_take (i := 9) rfl (by kernel_rfl) (by kernel_rfl) (by kernel_rfl) (fun _ _ _ h => h) (yields_val (by kernel_rfl) (.slice (some ⟨gna, 0, none⟩) 28 cna) (fun w => by kernel_rfl)) hS3a ?_
        refine wpAnyH_done (by kernel_rfl) ?_ _
        simp only [Act.put, List.getElem_toArray, List.getElem_cons_succ, List.getElem_cons_zero, List.setIfInBounds_toArray, List.set_cons_succ, List.set_cons_zero]
        have HRa := Lib.hid hRa
        have HSa := Lib.hid hS3a
        clear hRa hS3a hQ3a hG3a hS2a hQ2a hG2a hz2a hS1a hQ1a hz1a hdra hdsa eua egaa
        have HD2 := Lib.hid (HD.out.below HSa.out)
        go_wp2
        have hdrb : Below ua3.heap.size ua3 ua3.drew := below_drew _
        have hdsb : ua3.drew.heap.size = ua3.heap.size := rfl
        refine wp_region_held (S := fun w9 => Below ua3.heap.size ua3 w9) (by kernel_rfl) ?_
        show wpAnyH _ _ _ _ _ 10 _ _ ua3.drew
        obtain ⟨ub0, eub⟩ : ∃ u0, ua3.drew = u0 := ⟨_, rfl⟩
        rw [eub] at hdrb hdsb ⊢
        refine wpAnyH_take (i := 1) rfl (by kernel_rfl) (by kernel_rfl) (by kernel_rfl) (fun _ _ _ h => h) (yields_val (by kernel_rfl) (.slice (some ⟨gd, od, none⟩) 28 cd) (fun w => by kernel_rfl)) hdrb ?_
        refine wpAnyH_take (i := 2) rfl (by kernel_rfl) (by kernel_rfl) (by kernel_rfl) (fun _ _ _ h => h) (yields_val (by kernel_rfl) (.int .i64 1) (fun w => by kernel_rfl)) hdrb ?_
        refine wpAnyH_take (i := 3) rfl (by kernel_rfl) (by kernel_rfl) (by kernel_rfl) (fun _ _ _ h => h) (yields_from (by kernel_rfl) _ _ rfl gd od 28 cd 1 (by kernel_rfl) (by kernel_rfl) (by decide) (by omega) (by omega)) hdrb ?_
        refine wpAnyH_take (i := 5) rfl (by kernel_rfl) (by kernel_rfl) (by kernel_rfl) (fun _ _ _ h => h) (yields_val (by kernel_rfl) (.slice (some ⟨gd, od, none⟩) 28 cd) (fun w => by kernel_rfl)) hdrb ?_
        refine wpAnyH_take (i := 6) rfl (by kernel_rfl) (by kernel_rfl) (by kernel_rfl) (fun _ _ _ h => h) (yields_val (by kernel_rfl) (.int .i64 1) (fun w => by kernel_rfl)) hdrb ?_
        refine wpAnyH_take (i := 7) rfl (by kernel_rfl) (by kernel_rfl) (by kernel_rfl) (fun _ _ _ h => h) (yields_to (by kernel_rfl) _ _ rfl gd od 28 cd 1 (by kernel_rfl) (by kernel_rfl) (by omega)) hdrb ?_
        refine wpAnyH_all (rs := [0]) (by kernel_rfl) (by decide) ?_
        intro i0 hi0
        obtain rfl : i0 = 0 := by simpa using hi0
        refine wpOp_run rfl (by kernel_rfl) (.slice (some ⟨ub0.heap.size, 0, none⟩) 0 0) (ub0.alloc (.cells #[] intt)) (by kernel_rfl) ?_
        have hS1b : Below ua3.heap.size ua3 (ub0.alloc (.cells #[] intt)) := below_alloc hdrb (by omega) _
        have hQ1b := ownV_lit0 ub0 ua3.heap.size intt (Nat.le_of_eq hdsb.symm)
        have hz1b : ua3.heap.size ≤ (ub0.alloc (.cells #[] intt)).heap.size := by simp; omega
        obtain ⟨gab, egab⟩ : ∃ g, ub0.heap.size = g := ⟨_, rfl⟩
        rw [egab] at hQ1b ⊢
        generalize ub0.alloc (.cells #[] intt) = ub1 at hS1b hQ1b hz1b ⊢
        refine ⟨hS1b, ?_⟩
        refine wpAnyH_all (rs := [4]) (by kernel_rfl) (by decide) ?_
        intro i1 hi1
        obtain rfl : i1 = 4 := by simpa using hi1
        refine wpOp_append_v rfl (by kernel_rfl) hu_isl hi_int (by decide) (by decide) rfl _ _ rfl ua3.heap.size _ [] (by kernel_rfl) hQ1b _ _ _ ((Is (nb (cdTo x r).2 28)).drop 1) (by kernel_rfl) ((HD2.out.below (hS1b)).drop (by rw [Is_len, nb_len]; decide)) (by rw [Is_drop]; exact Is_one _) (by simp [Is_len, nb_len]) hz1b ?_
        intro vab ub2 hQ2b hG2b
        rw [List.nil_append] at hQ2b
        have hS2b : Below ua3.heap.size ua3 ub2 := below_own hS1b hz1b hG2b (fun q hq => (hQ1b.lt q hq).1)
        have hz2b : ua3.heap.size ≤ ub2.heap.size := hS2b.size
        refine ⟨hS2b, ?_⟩
        refine wpAnyH_all (rs := [8]) (by kernel_rfl) (by decide) ?_
        intro i2 hi2
        obtain rfl : i2 = 8 := by simpa using hi2
        refine wpOp_append_v rfl (by kernel_rfl) hu_isl hi_int (by decide) (by decide) rfl _ _ rfl ua3.heap.size _ ((Is (nb (cdTo x r).2 28)).drop 1) (by kernel_rfl) hQ2b _ _ _ ((Is (nb (cdTo x r).2 28)).take 1) (by kernel_rfl) ((HD2.out.below (hS2b)).take (by rw [Is_len, nb_len]; decide)) (by rw [Is_take]; exact Is_one _) (by simp [Is_len, nb_len]) hz2b ?_
        intro vbb ub3 hQ3b hG3b
        have hS3b : Below ua3.heap.size ua3 ub3 := below_own hS2b hz2b hG3b (fun q hq => (hQ2b.lt q hq).1)
        refine ⟨hS3b, ?_⟩
        rw [Is_drop, Is_take, ← Is_app, nb_rot _ 1 (ld) (by decide)] at hQ3b
        have hRb : OwnV ub3 ua3.heap.size intt vbb (Is (nb (cdTo x (r + 1)).2 28)) := by have e : shOf r = 1 := (by unfold shOf; first | (rw [if_pos (by omega)]) | (rw [if_neg (by omega)])); show OwnV _ _ _ _ (Is (nb (rot28 (cdTo x r).2 (shOf r)) 28)); rw [e]; exact hQ3b
        obtain ⟨gnb, cnb, enb, hgnb, _, _, hcnb, hcmb⟩ := hRb.form (by rw [Is_len, nb_len]; decide)
        rw [Is_len, nb_len] at enb hcnb
        subst enb
        refine wpAnyH_take (i := 9) rfl (by kernel_rfl) (by kernel_rfl) (by kernel_rfl) (fun _ _ _ h => h) (yields_val (by kernel_rfl) (.slice (some ⟨gnb, 0, none⟩) 28 cnb) (fun w => by kernel_rfl)) hS3b ?_
        refine wpAnyH_done (by kernel_rfl) ?_ _
        simp only [Act.put, List.getElem_toArray, List.getElem_cons_succ, List.getElem_cons_zero, List.setIfInBounds_toArray, List.set_cons_succ, List.set_cons_zero]
        have HRb := Lib.hid hRb
        have HSb := Lib.hid hS3b
        clear hRb hS3b hQ3b hG3b hS2b hQ2b hG2b hz2b hS1b hQ1b hz1b hdrb hdsb eub egab
        have HSab := Lib.hid (below_more HSa.out HSb.out HSa.out.size)
        have HRa2 := Lib.hid (HRa.out.under HSb.out)
        have hzz : wr.heap.size ≤ ub3.heap.size := HSab.out.size
        have hnz : N ≤ ub3.heap.size := Nat.le_trans HWN.out hzz
        go_wp2_with (first
          | (at_builtin; (with_reducible show wpList _ _ _ _ _ (World.alloc ub3 _)); refine append_v hu_isl hi_int (by decide) (by decide) rfl rfl _ _ rfl ub3.heap.size _ [] (by rfl) (ownV_lit0 ub3 _ intt (Nat.le_refl _)) _ (Is (nb (cdTo x (r + 1)).1 28)) (by rfl) (HRa2.out.slV.alloc _) (Is_one _) (by simp [Is_len, nb_len]) (by simp) ?_; intro vq1 w5 hQ1 hG1; rw [List.nil_append] at hQ1; have HQ1 := Lib.hid hQ1; have HS5 := Lib.hid (show Below ub3.heap.size ub3 w5 from below_new ((Below.refl _ _).alloc (Nat.le_refl _) _) (by simp) hG1 (Nat.le_refl _)); have HR5 := Lib.hid (HRb.out.under HS5.out); have HRa5 := Lib.hid (HRa2.out.under HS5.out); clear hQ1 hG1)
          | (at_builtin; (with_reducible show wpList _ _ _ _ _ w5); refine append_v hu_isl hi_int (by decide) (by decide) rfl rfl _ _ rfl ub3.heap.size _ (Is (nb (cdTo x (r + 1)).1 28)) (by rfl) HQ1.out _ (Is (nb (cdTo x (r + 1)).2 28)) (by rfl) HR5.out.slV (Is_one _) (by simp [Is_len, nb_len]) HS5.out.size ?_; intro vq2 w6 hQ2 hG2; rw [← Is_app] at hQ2; have HQ2 := Lib.hid hQ2; have HS6 := Lib.hid (show Below ub3.heap.size ub3 w6 from below_own HS5.out HS5.out.size hG2 (fun q hq => (HQ1.out.lt q hq).1)); clear hQ2 hG2)
          | (go_at_call 106; (with_reducible show Calls _ _ _ w6 _); refine (rperm_any _ (nb (cdTo x (r + 1)).1 28 ++ nb (cdTo x (r + 1)).2 28) strPC2 tabPC2 w6 HQ2.out.slV tells_PC2 (by rw [len_PC2]; decide) (by rw [List.length_append, nb_len, nb_len]; exact le_PC2b) (by rw [List.length_append, nb_len, nb_len]; decide)).mono ?_; rintro e w7 ⟨vk, rfl, hO7, hL7⟩; rw [HNR.out] at hO7; have hS7 : Below ub3.heap.size ub3 w7 := (below_more HS6.out hL7 HS6.out.size); have HS7 := Lib.hid hS7; have HV7 := Lib.hid (show Below wr.heap.size wr w7 from below_more HSab.out hS7 hzz); have HO7 := Lib.hid (hO7.lower (show N ≤ w6.heap.size from Nat.le_trans hnz HS6.out.size)); have HRa7 := Lib.hid (HRa2.out.under hS7); have HRb7 := Lib.hid (HRb.out.under hS7); have HKR7 := Lib.hid (HKR.out.under HV7.out); have HOv7 := Lib.hid (HO.out.under HV7.out); obtain ⟨gk, ck, ek, _, _, _, _, _⟩ := hO7.form (by rw [Is_len, nb_len]; decide); rw [Is_len, nb_len] at ek; subst ek; clear hO7 hL7 hS7)
          | (at_builtin; (with_reducible show wpList _ _ _ _ _ (World.alloc w7 _)); refine append_v hu_issl hi_isl (by decide) (by decide) rfl rfl _ _ rfl N _ vs (by rfl) (HOv7.out.alloc _) _ [.slice (some ⟨gk, 0, none⟩) 48 ck] (by rfl) (one_slV w7 _ islt) (by intro u hu; simp at hu; subst hu; rfl) (by have := HKR.out.1; have := HLT.out; simp; omega) (by simp; have := HV7.out.size; have := HWN.out; omega) ?_; intro vo w8 hO8 hG8; have HO8 := Lib.hid hO8; have HG8 := Lib.hid hG8; clear hO8 hG8))
        go_roundw
        case rel =>
          have hA7 : Below w7.heap.size w7 (w7.alloc (.cells #[.slice (some ⟨gk, 0, none⟩) 48 ck] islt)) := below_alloc (Below.refl _ _) (Nat.le_refl _) _
          have hob : ∀ j, Value.ownBlock _ = some j → j < wr.heap.size := fun j hj => (HO.out.lt j hj).2
          have hka := (HKR7.out.under hA7).kept (HOv7.out.alloc _) HG8.out
          have hsa := (HO7.out.under hA7).kept HG8.out ((HO7.out.under hA7).ne_type (HOv7.out.alloc _) (by decide))
          have hra := ((HRa7.out.under hA7).kept HG8.out ((HRa7.out.under hA7).ne_type (HOv7.out.alloc _) (by decide))).slV
          have hrb := ((HRb7.out.under hA7).kept HG8.out ((HRb7.out.under hA7).ne_type (HOv7.out.alloc _) (by decide))).slV
          exact ⟨r + 1, _, _, _, _, _, _, _, HLT.out, by have := EZ.out; congr 1; omega, rfl, rfl, hcna, hcnb, hcma, hcmb, hra, hrb, HO8.out, hka.snoc hsa, below_own (below_alloc (below_more HB.out HV7.out HWN.out) (by have := HV7.out.size; have := HWN.out; omega) _) (by simp; have := HV7.out.size; have := HWN.out; omega) HG8.out (fun q hq => (HOv7.out.lt q hq).1)⟩
        case measure => have := HLT.out; have := EZ.out; simp [intOf]; omega
      · have f1 : ((Z : Int) == 1) = false := by simp; omega
        have f2 : ((Z : Int) == 2) = true := by simp; omega
        have H0 := Lib.hid h0
        have HLC := Lib.hid lc
        have HLD := Lib.hid ld
        clear eZ hlt hr
        go_wp2
        clear f1 f2
        have hdra : Below wr.heap.size wr wr.drew := below_drew _
        have hdsa : wr.drew.heap.size = wr.heap.size := rfl
        refine wp_region_held (S := fun w9 => Below wr.heap.size wr w9) (by kernel_rfl) ?_
        show wpAnyH _ _ _ _ _ 10 _ _ wr.drew
        obtain ⟨ua0, eua⟩ : ∃ u0, wr.drew = u0 := ⟨_, rfl⟩
        rw [eua] at hdra hdsa ⊢
        refine wpAnyH_take (i := 1) rfl (by kernel_rfl) (by kernel_rfl) (by kernel_rfl) (fun _ _ _ h => h) (yields_val (by kernel_rfl) (.slice (some ⟨gc, oc, none⟩) 28 cc) (fun w => by kernel_rfl)) hdra ?_
        refine wpAnyH_take (i := 2) rfl (by kernel_rfl) (by kernel_rfl) (by kernel_rfl) (fun _ _ _ h => h) (yields_val (by kernel_rfl) (.int .i64 1) (fun w => by kernel_rfl)) hdra ?_
        refine wpAnyH_take (i := 3) rfl (by kernel_rfl) (by kernel_rfl) (by kernel_rfl) (fun _ _ _ h => h) (yields_from (by kernel_rfl) _ _ rfl gc oc 28 cc 1 (by kernel_rfl) (by kernel_rfl) (by decide) (by omega) (by omega)) hdra ?_
        refine wpAnyH_take (i := 5) rfl (by kernel_rfl) (by kernel_rfl) (by kernel_rfl) (fun _ _ _ h => h) (yields_val (by kernel_rfl) (.slice (some ⟨gc, oc, none⟩) 28 cc) (fun w => by kernel_rfl)) hdra ?_
        refine wpAnyH_take (i := 6) rfl (by kernel_rfl) (by kernel_rfl) (by kernel_rfl) (fun _ _ _ h => h) (yields_val (by kernel_rfl) (.int .i64 1) (fun w => by kernel_rfl)) hdra ?_
        refine wpAnyH_take (i := 7) rfl (by kernel_rfl) (by kernel_rfl) (by kernel_rfl) (fun _ _ _ h => h) (yields_to (by kernel_rfl) _ _ rfl gc oc 28 cc 1 (by kernel_rfl) (by kernel_rfl) (by omega)) hdra ?_
        refine wpAnyH_all (rs := [0]) (by kernel_rfl) (by decide) ?_
        intro i0 hi0
        obtain rfl : i0 = 0 := by simpa using hi0
        refine wpOp_run rfl (by kernel_rfl) (.slice (some ⟨ua0.heap.size, 0, none⟩) 0 0) (ua0.alloc (.cells #[] intt)) (by kernel_rfl) ?_
        have hS1a : Below wr.heap.size wr (ua0.alloc (.cells #[] intt)) := below_alloc hdra (by omega) _
        have hQ1a := ownV_lit0 ua0 wr.heap.size intt (Nat.le_of_eq hdsa.symm)
        have hz1a : wr.heap.size ≤ (ua0.alloc (.cells #[] intt)).heap.size := by simp; omega
        obtain ⟨gaa, egaa⟩ : ∃ g, ua0.heap.size = g := ⟨_, rfl⟩
        rw [egaa] at hQ1a ⊢
        generalize ua0.alloc (.cells #[] intt) = ua1 at hS1a hQ1a hz1a ⊢
        refine ⟨hS1a, ?_⟩
        refine wpAnyH_all (rs := [4]) (by kernel_rfl) (by decide) ?_
        intro i1 hi1
        obtain rfl : i1 = 4 := by simpa using hi1
        refine wpOp_append_v rfl (by kernel_rfl) hu_isl hi_int (by decide) (by decide) rfl _ _ rfl wr.heap.size _ [] (by kernel_rfl) hQ1a _ _ _ ((Is (nb (cdTo x r).1 28)).drop 1) (by kernel_rfl) ((HC.out.below (hS1a)).drop (by rw [Is_len, nb_len]; decide)) (by rw [Is_drop]; exact Is_one _) (by simp [Is_len, nb_len]) hz1a ?_
        intro vaa ua2 hQ2a hG2a
        rw [List.nil_append] at hQ2a
        have hS2a : Below wr.heap.size wr ua2 := below_own hS1a hz1a hG2a (fun q hq => (hQ1a.lt q hq).1)
        have hz2a : wr.heap.size ≤ ua2.heap.size := hS2a.size
        refine ⟨hS2a, ?_⟩
        refine wpAnyH_all (rs := [8]) (by kernel_rfl) (by decide) ?_
        intro i2 hi2
        obtain rfl : i2 = 8 := by simpa using hi2
        refine wpOp_append_v rfl (by kernel_rfl) hu_isl hi_int (by decide) (by decide) rfl _ _ rfl wr.heap.size _ ((Is (nb (cdTo x r).1 28)).drop 1) (by kernel_rfl) hQ2a _ _ _ ((Is (nb (cdTo x r).1 28)).take 1) (by kernel_rfl) ((HC.out.below (hS2a)).take (by rw [Is_len, nb_len]; decide)) (by rw [Is_take]; exact Is_one _) (by simp [Is_len, nb_len]) hz2a ?_
        intro vba ua3 hQ3a hG3a
        have hS3a : Below wr.heap.size wr ua3 := below_own hS2a hz2a hG3a (fun q hq => (hQ2a.lt q hq).1)
        refine ⟨hS3a, ?_⟩
        rw [Is_drop, Is_take, ← Is_app, nb_rot _ 1 (lc) (by decide)] at hQ3a
        have hRa : OwnV ua3 wr.heap.size intt vba (Is (nb (cdTo x (r + 1)).1 28)) := by have e : shOf r = 1 := (by unfold shOf; first | (rw [if_pos (by omega)]) | (rw [if_neg (by omega)])); show OwnV _ _ _ _ (Is (nb (rot28 (cdTo x r).1 (shOf r)) 28)); rw [e]; exact hQ3a
        obtain ⟨gna, cna, ena, hgna, _, _, hcna, hcma⟩ := hRa.form (by rw [Is_len, nb_len]; decide)
        rw [Is_len, nb_len] at ena hcna
        subst ena
        refine wpAnyH_take (i := 9) rfl (by kernel_rfl) (by kernel_rfl) (by kernel_rfl) (fun _ _ _ h => h) (yields_val (by kernel_rfl) (.slice (some ⟨gna, 0, none⟩) 28 cna) (fun w => by kernel_rfl)) hS3a ?_
        refine wpAnyH_done (by kernel_rfl) ?_ _
        simp only [Act.put, List.getElem_toArray, List.getElem_cons_succ, List.getElem_cons_zero, List.setIfInBounds_toArray, List.set_cons_succ, List.set_cons_zero]
        have HRa := Lib.hid hRa
        have HSa := Lib.hid hS3a
        clear hRa hS3a hQ3a hG3a hS2a hQ2a hG2a hz2a hS1a hQ1a hz1a hdra hdsa eua egaa
        have HD2 := Lib.hid (HD.out.below HSa.out)
        go_wp2
        have hdrb : Below ua3.heap.size ua3 ua3.drew := below_drew _
        have hdsb : ua3.drew.heap.size = ua3.heap.size := rfl
        refine wp_region_held (S := fun w9 => Below ua3.heap.size ua3 w9) (by kernel_rfl) ?_
        show wpAnyH _ _ _ _ _ 10 _ _ ua3.drew
        obtain ⟨ub0, eub⟩ : ∃ u0, ua3.drew = u0 := ⟨_, rfl⟩
        rw [eub] at hdrb hdsb ⊢
        refine wpAnyH_take (i := 1) rfl (by kernel_rfl) (by kernel_rfl) (by kernel_rfl) (fun _ _ _ h => h) (yields_val (by kernel_rfl) (.slice (some ⟨gd, od, none⟩) 28 cd) (fun w => by kernel_rfl)) hdrb ?_
        refine wpAnyH_take (i := 2) rfl (by kernel_rfl) (by kernel_rfl) (by kernel_rfl) (fun _ _ _ h => h) (yields_val (by kernel_rfl) (.int .i64 1) (fun w => by kernel_rfl)) hdrb ?_
        refine wpAnyH_take (i := 3) rfl (by kernel_rfl) (by kernel_rfl) (by kernel_rfl) (fun _ _ _ h => h) (yields_from (by kernel_rfl) _ _ rfl gd od 28 cd 1 (by kernel_rfl) (by kernel_rfl) (by decide) (by omega) (by omega)) hdrb ?_
        refine wpAnyH_take (i := 5) rfl (by kernel_rfl) (by kernel_rfl) (by kernel_rfl) (fun _ _ _ h => h) (yields_val (by kernel_rfl) (.slice (some ⟨gd, od, none⟩) 28 cd) (fun w => by kernel_rfl)) hdrb ?_
        refine wpAnyH_take (i := 6) rfl (by kernel_rfl) (by kernel_rfl) (by kernel_rfl) (fun _ _ _ h => h) (yields_val (by kernel_rfl) (.int .i64 1) (fun w => by kernel_rfl)) hdrb ?_
        refine wpAnyH_take (i := 7) rfl (by kernel_rfl) (by kernel_rfl) (by kernel_rfl) (fun _ _ _ h => h) (yields_to (by kernel_rfl) _ _ rfl gd od 28 cd 1 (by kernel_rfl) (by kernel_rfl) (by omega)) hdrb ?_
        refine wpAnyH_all (rs := [0]) (by kernel_rfl) (by decide) ?_
        intro i0 hi0
        obtain rfl : i0 = 0 := by simpa using hi0
        refine wpOp_run rfl (by kernel_rfl) (.slice (some ⟨ub0.heap.size, 0, none⟩) 0 0) (ub0.alloc (.cells #[] intt)) (by kernel_rfl) ?_
        have hS1b : Below ua3.heap.size ua3 (ub0.alloc (.cells #[] intt)) := below_alloc hdrb (by omega) _
        have hQ1b := ownV_lit0 ub0 ua3.heap.size intt (Nat.le_of_eq hdsb.symm)
        have hz1b : ua3.heap.size ≤ (ub0.alloc (.cells #[] intt)).heap.size := by simp; omega
        obtain ⟨gab, egab⟩ : ∃ g, ub0.heap.size = g := ⟨_, rfl⟩
        rw [egab] at hQ1b ⊢
        generalize ub0.alloc (.cells #[] intt) = ub1 at hS1b hQ1b hz1b ⊢
        refine ⟨hS1b, ?_⟩
        refine wpAnyH_all (rs := [4]) (by kernel_rfl) (by decide) ?_
        intro i1 hi1
        obtain rfl : i1 = 4 := by simpa using hi1
        refine wpOp_append_v rfl (by kernel_rfl) hu_isl hi_int (by decide) (by decide) rfl _ _ rfl ua3.heap.size _ [] (by kernel_rfl) hQ1b _ _ _ ((Is (nb (cdTo x r).2 28)).drop 1) (by kernel_rfl) ((HD2.out.below (hS1b)).drop (by rw [Is_len, nb_len]; decide)) (by rw [Is_drop]; exact Is_one _) (by simp [Is_len, nb_len]) hz1b ?_
        intro vab ub2 hQ2b hG2b
        rw [List.nil_append] at hQ2b
        have hS2b : Below ua3.heap.size ua3 ub2 := below_own hS1b hz1b hG2b (fun q hq => (hQ1b.lt q hq).1)
        have hz2b : ua3.heap.size ≤ ub2.heap.size := hS2b.size
        refine ⟨hS2b, ?_⟩
        refine wpAnyH_all (rs := [8]) (by kernel_rfl) (by decide) ?_
        intro i2 hi2
        obtain rfl : i2 = 8 := by simpa using hi2
        refine wpOp_append_v rfl (by kernel_rfl) hu_isl hi_int (by decide) (by decide) rfl _ _ rfl ua3.heap.size _ ((Is (nb (cdTo x r).2 28)).drop 1) (by kernel_rfl) hQ2b _ _ _ ((Is (nb (cdTo x r).2 28)).take 1) (by kernel_rfl) ((HD2.out.below (hS2b)).take (by rw [Is_len, nb_len]; decide)) (by rw [Is_take]; exact Is_one _) (by simp [Is_len, nb_len]) hz2b ?_
        intro vbb ub3 hQ3b hG3b
        have hS3b : Below ua3.heap.size ua3 ub3 := below_own hS2b hz2b hG3b (fun q hq => (hQ2b.lt q hq).1)
        refine ⟨hS3b, ?_⟩
        rw [Is_drop, Is_take, ← Is_app, nb_rot _ 1 (ld) (by decide)] at hQ3b
        have hRb : OwnV ub3 ua3.heap.size intt vbb (Is (nb (cdTo x (r + 1)).2 28)) := by have e : shOf r = 1 := (by unfold shOf; first | (rw [if_pos (by omega)]) | (rw [if_neg (by omega)])); show OwnV _ _ _ _ (Is (nb (rot28 (cdTo x r).2 (shOf r)) 28)); rw [e]; exact hQ3b
        obtain ⟨gnb, cnb, enb, hgnb, _, _, hcnb, hcmb⟩ := hRb.form (by rw [Is_len, nb_len]; decide)
        rw [Is_len, nb_len] at enb hcnb
        subst enb
        refine wpAnyH_take (i := 9) rfl (by kernel_rfl) (by kernel_rfl) (by kernel_rfl) (fun _ _ _ h => h) (yields_val (by kernel_rfl) (.slice (some ⟨gnb, 0, none⟩) 28 cnb) (fun w => by kernel_rfl)) hS3b ?_
        refine wpAnyH_done (by kernel_rfl) ?_ _
        simp only [Act.put, List.getElem_toArray, List.getElem_cons_succ, List.getElem_cons_zero, List.setIfInBounds_toArray, List.set_cons_succ, List.set_cons_zero]
        have HRb := Lib.hid hRb
        have HSb := Lib.hid hS3b
        clear hRb hS3b hQ3b hG3b hS2b hQ2b hG2b hz2b hS1b hQ1b hz1b hdrb hdsb eub egab
        have HSab := Lib.hid (below_more HSa.out HSb.out HSa.out.size)
        have HRa2 := Lib.hid (HRa.out.under HSb.out)
        have hzz : wr.heap.size ≤ ub3.heap.size := HSab.out.size
        have hnz : N ≤ ub3.heap.size := Nat.le_trans HWN.out hzz
        go_wp2_with (first
          | (at_builtin; (with_reducible show wpList _ _ _ _ _ (World.alloc ub3 _)); refine append_v hu_isl hi_int (by decide) (by decide) rfl rfl _ _ rfl ub3.heap.size _ [] (by rfl) (ownV_lit0 ub3 _ intt (Nat.le_refl _)) _ (Is (nb (cdTo x (r + 1)).1 28)) (by rfl) (HRa2.out.slV.alloc _) (Is_one _) (by simp [Is_len, nb_len]) (by simp) ?_; intro vq1 w5 hQ1 hG1; rw [List.nil_append] at hQ1; have HQ1 := Lib.hid hQ1; have HS5 := Lib.hid (show Below ub3.heap.size ub3 w5 from below_new ((Below.refl _ _).alloc (Nat.le_refl _) _) (by simp) hG1 (Nat.le_refl _)); have HR5 := Lib.hid (HRb.out.under HS5.out); have HRa5 := Lib.hid (HRa2.out.under HS5.out); clear hQ1 hG1)
          | (at_builtin; (with_reducible show wpList _ _ _ _ _ w5); refine append_v hu_isl hi_int (by decide) (by decide) rfl rfl _ _ rfl ub3.heap.size _ (Is (nb (cdTo x (r + 1)).1 28)) (by rfl) HQ1.out _ (Is (nb (cdTo x (r + 1)).2 28)) (by rfl) HR5.out.slV (Is_one _) (by simp [Is_len, nb_len]) HS5.out.size ?_; intro vq2 w6 hQ2 hG2; rw [← Is_app] at hQ2; have HQ2 := Lib.hid hQ2; have HS6 := Lib.hid (show Below ub3.heap.size ub3 w6 from below_own HS5.out HS5.out.size hG2 (fun q hq => (HQ1.out.lt q hq).1)); clear hQ2 hG2)
          | (go_at_call 106; (with_reducible show Calls _ _ _ w6 _); refine (rperm_any _ (nb (cdTo x (r + 1)).1 28 ++ nb (cdTo x (r + 1)).2 28) strPC2 tabPC2 w6 HQ2.out.slV tells_PC2 (by rw [len_PC2]; decide) (by rw [List.length_append, nb_len, nb_len]; exact le_PC2b) (by rw [List.length_append, nb_len, nb_len]; decide)).mono ?_; rintro e w7 ⟨vk, rfl, hO7, hL7⟩; rw [HNR.out] at hO7; have hS7 : Below ub3.heap.size ub3 w7 := (below_more HS6.out hL7 HS6.out.size); have HS7 := Lib.hid hS7; have HV7 := Lib.hid (show Below wr.heap.size wr w7 from below_more HSab.out hS7 hzz); have HO7 := Lib.hid (hO7.lower (show N ≤ w6.heap.size from Nat.le_trans hnz HS6.out.size)); have HRa7 := Lib.hid (HRa2.out.under hS7); have HRb7 := Lib.hid (HRb.out.under hS7); have HKR7 := Lib.hid (HKR.out.under HV7.out); have HOv7 := Lib.hid (HO.out.under HV7.out); obtain ⟨gk, ck, ek, _, _, _, _, _⟩ := hO7.form (by rw [Is_len, nb_len]; decide); rw [Is_len, nb_len] at ek; subst ek; clear hO7 hL7 hS7)
          | (at_builtin; (with_reducible show wpList _ _ _ _ _ (World.alloc w7 _)); refine append_v hu_issl hi_isl (by decide) (by decide) rfl rfl _ _ rfl N _ vs (by rfl) (HOv7.out.alloc _) _ [.slice (some ⟨gk, 0, none⟩) 48 ck] (by rfl) (one_slV w7 _ islt) (by intro u hu; simp at hu; subst hu; rfl) (by have := HKR.out.1; have := HLT.out; simp; omega) (by simp; have := HV7.out.size; have := HWN.out; omega) ?_; intro vo w8 hO8 hG8; have HO8 := Lib.hid hO8; have HG8 := Lib.hid hG8; clear hO8 hG8))
        go_roundw
        case rel =>
          have hA7 : Below w7.heap.size w7 (w7.alloc (.cells #[.slice (some ⟨gk, 0, none⟩) 48 ck] islt)) := below_alloc (Below.refl _ _) (Nat.le_refl _) _
          have hob : ∀ j, Value.ownBlock _ = some j → j < wr.heap.size := fun j hj => (HO.out.lt j hj).2
          have hka := (HKR7.out.under hA7).kept (HOv7.out.alloc _) HG8.out
          have hsa := (HO7.out.under hA7).kept HG8.out ((HO7.out.under hA7).ne_type (HOv7.out.alloc _) (by decide))
          have hra := ((HRa7.out.under hA7).kept HG8.out ((HRa7.out.under hA7).ne_type (HOv7.out.alloc _) (by decide))).slV
          have hrb := ((HRb7.out.under hA7).kept HG8.out ((HRb7.out.under hA7).ne_type (HOv7.out.alloc _) (by decide))).slV
          exact ⟨r + 1, _, _, _, _, _, _, _, HLT.out, by have := EZ.out; congr 1; omega, rfl, rfl, hcna, hcnb, hcma, hcmb, hra, hrb, HO8.out, hka.snoc hsa, below_own (below_alloc (below_more HB.out HV7.out HWN.out) (by have := HV7.out.size; have := HWN.out; omega) _) (by simp; have := HV7.out.size; have := HWN.out; omega) HG8.out (fun q hq => (HOv7.out.lt q hq).1)⟩
        case measure => have := HLT.out; have := EZ.out; simp [intOf]; omega
      · have f1 : ((Z : Int) == 1) = false := by simp; omega
        have f2 : ((Z : Int) == 2) = false := by simp; omega
        have f9 : ((Z : Int) == 9) = true := by simp; omega
        have H0 := Lib.hid h0
        have HLC := Lib.hid lc
        have HLD := Lib.hid ld
        clear eZ hlt hr
        go_wp2
        clear f1 f2 f9
        have hdra : Below wr.heap.size wr wr.drew := below_drew _
        have hdsa : wr.drew.heap.size = wr.heap.size := rfl
        refine wp_region_held (S := fun w9 => Below wr.heap.size wr w9) (by kernel_rfl) ?_
        show wpAnyH _ _ _ _ _ 10 _ _ wr.drew
        obtain ⟨ua0, eua⟩ : ∃ u0, wr.drew = u0 := ⟨_, rfl⟩
        rw [eua] at hdra hdsa ⊢
        refine wpAnyH_take (i := 1) rfl (by kernel_rfl) (by kernel_rfl) (by kernel_rfl) (fun _ _ _ h => h) (yields_val (by kernel_rfl) (.slice (some ⟨gc, oc, none⟩) 28 cc) (fun w => by kernel_rfl)) hdra ?_
        refine wpAnyH_take (i := 2) rfl (by kernel_rfl) (by kernel_rfl) (by kernel_rfl) (fun _ _ _ h => h) (yields_val (by kernel_rfl) (.int .i64 1) (fun w => by kernel_rfl)) hdra ?_
        refine wpAnyH_take (i := 3) rfl (by kernel_rfl) (by kernel_rfl) (by kernel_rfl) (fun _ _ _ h => h) (yields_from (by kernel_rfl) _ _ rfl gc oc 28 cc 1 (by kernel_rfl) (by kernel_rfl) (by decide) (by omega) (by omega)) hdra ?_
        refine wpAnyH_take (i := 5) rfl (by kernel_rfl) (by kernel_rfl) (by kernel_rfl) (fun _ _ _ h => h) (yields_val (by kernel_rfl) (.slice (some ⟨gc, oc, none⟩) 28 cc) (fun w => by kernel_rfl)) hdra ?_
        refine wpAnyH_take (i := 6) rfl (by kernel_rfl) (by kernel_rfl) (by kernel_rfl) (fun _ _ _ h => h) (yields_val (by kernel_rfl) (.int .i64 1) (fun w => by kernel_rfl)) hdra ?_
        refine wpAnyH_take (i := 7) rfl (by kernel_rfl) (by kernel_rfl) (by kernel_rfl) (fun _ _ _ h => h) (yields_to (by kernel_rfl) _ _ rfl gc oc 28 cc 1 (by kernel_rfl) (by kernel_rfl) (by omega)) hdra ?_
        refine wpAnyH_all (rs := [0]) (by kernel_rfl) (by decide) ?_
        intro i0 hi0
        obtain rfl : i0 = 0 := by simpa using hi0
        refine wpOp_run rfl (by kernel_rfl) (.slice (some ⟨ua0.heap.size, 0, none⟩) 0 0) (ua0.alloc (.cells #[] intt)) (by kernel_rfl) ?_
        have hS1a : Below wr.heap.size wr (ua0.alloc (.cells #[] intt)) := below_alloc hdra (by omega) _
        have hQ1a := ownV_lit0 ua0 wr.heap.size intt (Nat.le_of_eq hdsa.symm)
        have hz1a : wr.heap.size ≤ (ua0.alloc (.cells #[] intt)).heap.size := by simp; omega
        obtain ⟨gaa, egaa⟩ : ∃ g, ua0.heap.size = g := ⟨_, rfl⟩
        rw [egaa] at hQ1a ⊢
        generalize ua0.alloc (.cells #[] intt) = ua1 at hS1a hQ1a hz1a ⊢
        refine ⟨hS1a, ?_⟩
        refine wpAnyH_all (rs := [4]) (by kernel_rfl) (by decide) ?_
        intro i1 hi1
        obtain rfl : i1 = 4 := by simpa using hi1
        refine wpOp_append_v rfl (by kernel_rfl) hu_isl hi_int (by decide) (by decide) rfl _ _ rfl wr.heap.size _ [] (by kernel_rfl) hQ1a _ _ _ ((Is (nb (cdTo x r).1 28)).drop 1) (by kernel_rfl) ((HC.out.below (hS1a)).drop (by rw [Is_len, nb_len]; decide)) (by rw [Is_drop]; exact Is_one _) (by simp [Is_len, nb_len]) hz1a ?_
        intro vaa ua2 hQ2a hG2a
        rw [List.nil_append] at hQ2a
        have hS2a : Below wr.heap.size wr ua2 := below_own hS1a hz1a hG2a (fun q hq => (hQ1a.lt q hq).1)
        have hz2a : wr.heap.size ≤ ua2.heap.size := hS2a.size
        refine ⟨hS2a, ?_⟩
        refine wpAnyH_all (rs := [8]) (by kernel_rfl) (by decide) ?_
        intro i2 hi2
        obtain rfl : i2 = 8 := by simpa using hi2
        refine wpOp_append_v rfl (by kernel_rfl) hu_isl hi_int (by decide) (by decide) rfl _ _ rfl wr.heap.size _ ((Is (nb (cdTo x r).1 28)).drop 1) (by kernel_rfl) hQ2a _ _ _ ((Is (nb (cdTo x r).1 28)).take 1) (by kernel_rfl) ((HC.out.below (hS2a)).take (by rw [Is_len, nb_len]; decide)) (by rw [Is_take]; exact Is_one _) (by simp [Is_len, nb_len]) hz2a ?_
        intro vba ua3 hQ3a hG3a
        have hS3a : Below wr.heap.size wr ua3 := below_own hS2a hz2a hG3a (fun q hq => (hQ2a.lt q hq).1)
        refine ⟨hS3a, ?_⟩
        rw [Is_drop, Is_take, ← Is_app, nb_rot _ 1 (lc) (by decide)] at hQ3a
        have hRa : OwnV ua3 wr.heap.size intt vba (Is (nb (cdTo x (r + 1)).1 28)) := by have e : shOf r = 1 := (by unfold shOf; first | (rw [if_pos (by omega)]) | (rw [if_neg (by omega)])); show OwnV _ _ _ _ (Is (nb (rot28 (cdTo x r).1 (shOf r)) 28)); rw [e]; exact hQ3a
        obtain ⟨gna, cna, ena, hgna, _, _, hcna, hcma⟩ := hRa.form (by rw [Is_len, nb_len]; decide)
        rw [Is_len, nb_len] at ena hcna
        subst ena
        refine wpAnyH_take (i := 9) rfl (by kernel_rfl) (by kernel_rfl) (by kernel_rfl) (fun _ _ _ h => h) (yields_val (by kernel_rfl) (.slice (some ⟨gna, 0, none⟩) 28 cna) (fun w => by kernel_rfl)) hS3a ?_
        refine wpAnyH_done (by kernel_rfl) ?_ _
        simp only [Act.put, List.getElem_toArray, List.getElem_cons_succ, List.getElem_cons_zero, List.setIfInBounds_toArray, List.set_cons_succ, List.set_cons_zero]
        have HRa := Lib.hid hRa
        have HSa := Lib.hid hS3a
        clear hRa hS3a hQ3a hG3a hS2a hQ2a hG2a hz2a hS1a hQ1a hz1a hdra hdsa eua egaa
        have HD2 := Lib.hid (HD.out.below HSa.out)
        go_wp2
        have hdrb : Below ua3.heap.size ua3 ua3.drew := below_drew _
        have hdsb : ua3.drew.heap.size = ua3.heap.size := rfl
        refine wp_region_held (S := fun w9 => Below ua3.heap.size ua3 w9) (by kernel_rfl) ?_
        show wpAnyH _ _ _ _ _ 10 _ _ ua3.drew
        obtain ⟨ub0, eub⟩ : ∃ u0, ua3.drew = u0 := ⟨_, rfl⟩
        rw [eub] at hdrb hdsb ⊢
        refine wpAnyH_take (i := 1) rfl (by kernel_rfl) (by kernel_rfl) (by kernel_rfl) (fun _ _ _ h => h) (yields_val (by kernel_rfl) (.slice (some ⟨gd, od, none⟩) 28 cd) (fun w => by kernel_rfl)) hdrb ?_
        refine wpAnyH_take (i := 2) rfl (by kernel_rfl) (by kernel_rfl) (by kernel_rfl) (fun _ _ _ h => h) (yields_val (by kernel_rfl) (.int .i64 1) (fun w => by kernel_rfl)) hdrb ?_
        refine wpAnyH_take (i := 3) rfl (by kernel_rfl) (by kernel_rfl) (by kernel_rfl) (fun _ _ _ h => h) (yields_from (by kernel_rfl) _ _ rfl gd od 28 cd 1 (by kernel_rfl) (by kernel_rfl) (by decide) (by omega) (by omega)) hdrb ?_
        refine wpAnyH_take (i := 5) rfl (by kernel_rfl) (by kernel_rfl) (by kernel_rfl) (fun _ _ _ h => h) (yields_val (by kernel_rfl) (.slice (some ⟨gd, od, none⟩) 28 cd) (fun w => by kernel_rfl)) hdrb ?_
        refine wpAnyH_take (i := 6) rfl (by kernel_rfl) (by kernel_rfl) (by kernel_rfl) (fun _ _ _ h => h) (yields_val (by kernel_rfl) (.int .i64 1) (fun w => by kernel_rfl)) hdrb ?_
        refine wpAnyH_take (i := 7) rfl (by kernel_rfl) (by kernel_rfl) (by kernel_rfl) (fun _ _ _ h => h) (yields_to (by kernel_rfl) _ _ rfl gd od 28 cd 1 (by kernel_rfl) (by kernel_rfl) (by omega)) hdrb ?_
        refine wpAnyH_all (rs := [0]) (by kernel_rfl) (by decide) ?_
        intro i0 hi0
        obtain rfl : i0 = 0 := by simpa using hi0
        refine wpOp_run rfl (by kernel_rfl) (.slice (some ⟨ub0.heap.size, 0, none⟩) 0 0) (ub0.alloc (.cells #[] intt)) (by kernel_rfl) ?_
        have hS1b : Below ua3.heap.size ua3 (ub0.alloc (.cells #[] intt)) := below_alloc hdrb (by omega) _
        have hQ1b := ownV_lit0 ub0 ua3.heap.size intt (Nat.le_of_eq hdsb.symm)
        have hz1b : ua3.heap.size ≤ (ub0.alloc (.cells #[] intt)).heap.size := by simp; omega
        obtain ⟨gab, egab⟩ : ∃ g, ub0.heap.size = g := ⟨_, rfl⟩
        rw [egab] at hQ1b ⊢
        generalize ub0.alloc (.cells #[] intt) = ub1 at hS1b hQ1b hz1b ⊢
        refine ⟨hS1b, ?_⟩
        refine wpAnyH_all (rs := [4]) (by kernel_rfl) (by decide) ?_
        intro i1 hi1
        obtain rfl : i1 = 4 := by simpa using hi1
        refine wpOp_append_v rfl (by kernel_rfl) hu_isl hi_int (by decide) (by decide) rfl _ _ rfl ua3.heap.size _ [] (by kernel_rfl) hQ1b _ _ _ ((Is (nb (cdTo x r).2 28)).drop 1) (by kernel_rfl) ((HD2.out.below (hS1b)).drop (by rw [Is_len, nb_len]; decide)) (by rw [Is_drop]; exact Is_one _) (by simp [Is_len, nb_len]) hz1b ?_
        intro vab ub2 hQ2b hG2b
        rw [List.nil_append] at hQ2b
        have hS2b : Below ua3.heap.size ua3 ub2 := below_own hS1b hz1b hG2b (fun q hq => (hQ1b.lt q hq).1)
        have hz2b : ua3.heap.size ≤ ub2.heap.size := hS2b.size
        refine ⟨hS2b, ?_⟩
        refine wpAnyH_all (rs := [8]) (by kernel_rfl) (by decide) ?_
        intro i2 hi2
        obtain rfl : i2 = 8 := by simpa using hi2
        refine wpOp_append_v rfl (by kernel_rfl) hu_isl hi_int (by decide) (by decide) rfl _ _ rfl ua3.heap.size _ ((Is (nb (cdTo x r).2 28)).drop 1) (by kernel_rfl) hQ2b _ _ _ ((Is (nb (cdTo x r).2 28)).take 1) (by kernel_rfl) ((HD2.out.below (hS2b)).take (by rw [Is_len, nb_len]; decide)) (by rw [Is_take]; exact Is_one _) (by simp [Is_len, nb_len]) hz2b ?_
        intro vbb ub3 hQ3b hG3b
        have hS3b : Below ua3.heap.size ua3 ub3 := below_own hS2b hz2b hG3b (fun q hq => (hQ2b.lt q hq).1)
        refine ⟨hS3b, ?_⟩
        rw [Is_drop, Is_take, ← Is_app, nb_rot _ 1 (ld) (by decide)] at hQ3b
        have hRb : OwnV ub3 ua3.heap.size intt vbb (Is (nb (cdTo x (r + 1)).2 28)) := by have e : shOf r = 1 := (by unfold shOf; first | (rw [if_pos (by omega)]) | (rw [if_neg (by omega)])); show OwnV _ _ _ _ (Is (nb (rot28 (cdTo x r).2 (shOf r)) 28)); rw [e]; exact hQ3b
        obtain ⟨gnb, cnb, enb, hgnb, _, _, hcnb, hcmb⟩ := hRb.form (by rw [Is_len, nb_len]; decide)
        rw [Is_len, nb_len] at enb hcnb
        subst enb
        refine wpAnyH_take (i := 9) rfl (by kernel_rfl) (by kernel_rfl) (by kernel_rfl) (fun _ _ _ h => h) (yields_val (by kernel_rfl) (.slice (some ⟨gnb, 0, none⟩) 28 cnb) (fun w => by kernel_rfl)) hS3b ?_
        refine wpAnyH_done (by kernel_rfl) ?_ _
        simp only [Act.put, List.getElem_toArray, List.getElem_cons_succ, List.getElem_cons_zero, List.setIfInBounds_toArray, List.set_cons_succ, List.set_cons_zero]
        have HRb := Lib.hid hRb
        have HSb := Lib.hid hS3b
        clear hRb hS3b hQ3b hG3b hS2b hQ2b hG2b hz2b hS1b hQ1b hz1b hdrb hdsb eub egab
        have HSab := Lib.hid (below_more HSa.out HSb.out HSa.out.size)
        have HRa2 := Lib.hid (HRa.out.under HSb.out)
        have hzz : wr.heap.size ≤ ub3.heap.size := HSab.out.size
        have hnz : N ≤ ub3.heap.size := Nat.le_trans HWN.out hzz
        go_wp2_with (first
          | (at_builtin; (with_reducible show wpList _ _ _ _ _ (World.alloc ub3 _)); refine append_v hu_isl hi_int (by decide) (by decide) rfl rfl _ _ rfl ub3.heap.size _ [] (by rfl) (ownV_lit0 ub3 _ intt (Nat.le_refl _)) _ (Is (nb (cdTo x (r + 1)).1 28)) (by rfl) (HRa2.out.slV.alloc _) (Is_one _) (by simp [Is_len, nb_len]) (by simp) ?_; intro vq1 w5 hQ1 hG1; rw [List.nil_append] at hQ1; have HQ1 := Lib.hid hQ1; have HS5 := Lib.hid (show Below ub3.heap.size ub3 w5 from below_new ((Below.refl _ _).alloc (Nat.le_refl _) _) (by simp) hG1 (Nat.le_refl _)); have HR5 := Lib.hid (HRb.out.under HS5.out); have HRa5 := Lib.hid (HRa2.out.under HS5.out); clear hQ1 hG1)
          | (at_builtin; (with_reducible show wpList _ _ _ _ _ w5); refine append_v hu_isl hi_int (by decide) (by decide) rfl rfl _ _ rfl ub3.heap.size _ (Is (nb (cdTo x (r + 1)).1 28)) (by rfl) HQ1.out _ (Is (nb (cdTo x (r + 1)).2 28)) (by rfl) HR5.out.slV (Is_one _) (by simp [Is_len, nb_len]) HS5.out.size ?_; intro vq2 w6 hQ2 hG2; rw [← Is_app] at hQ2; have HQ2 := Lib.hid hQ2; have HS6 := Lib.hid (show Below ub3.heap.size ub3 w6 from below_own HS5.out HS5.out.size hG2 (fun q hq => (HQ1.out.lt q hq).1)); clear hQ2 hG2)
          | (go_at_call 106; (with_reducible show Calls _ _ _ w6 _); refine (rperm_any _ (nb (cdTo x (r + 1)).1 28 ++ nb (cdTo x (r + 1)).2 28) strPC2 tabPC2 w6 HQ2.out.slV tells_PC2 (by rw [len_PC2]; decide) (by rw [List.length_append, nb_len, nb_len]; exact le_PC2b) (by rw [List.length_append, nb_len, nb_len]; decide)).mono ?_; rintro e w7 ⟨vk, rfl, hO7, hL7⟩; rw [HNR.out] at hO7; have hS7 : Below ub3.heap.size ub3 w7 := (below_more HS6.out hL7 HS6.out.size); have HS7 := Lib.hid hS7; have HV7 := Lib.hid (show Below wr.heap.size wr w7 from below_more HSab.out hS7 hzz); have HO7 := Lib.hid (hO7.lower (show N ≤ w6.heap.size from Nat.le_trans hnz HS6.out.size)); have HRa7 := Lib.hid (HRa2.out.under hS7); have HRb7 := Lib.hid (HRb.out.under hS7); have HKR7 := Lib.hid (HKR.out.under HV7.out); have HOv7 := Lib.hid (HO.out.under HV7.out); obtain ⟨gk, ck, ek, _, _, _, _, _⟩ := hO7.form (by rw [Is_len, nb_len]; decide); rw [Is_len, nb_len] at ek; subst ek; clear hO7 hL7 hS7)
          | (at_builtin; (with_reducible show wpList _ _ _ _ _ (World.alloc w7 _)); refine append_v hu_issl hi_isl (by decide) (by decide) rfl rfl _ _ rfl N _ vs (by rfl) (HOv7.out.alloc _) _ [.slice (some ⟨gk, 0, none⟩) 48 ck] (by rfl) (one_slV w7 _ islt) (by intro u hu; simp at hu; subst hu; rfl) (by have := HKR.out.1; have := HLT.out; simp; omega) (by simp; have := HV7.out.size; have := HWN.out; omega) ?_; intro vo w8 hO8 hG8; have HO8 := Lib.hid hO8; have HG8 := Lib.hid hG8; clear hO8 hG8))
        go_roundw
        case rel =>
          have hA7 : Below w7.heap.size w7 (w7.alloc (.cells #[.slice (some ⟨gk, 0, none⟩) 48 ck] islt)) := below_alloc (Below.refl _ _) (Nat.le_refl _) _
          have hob : ∀ j, Value.ownBlock _ = some j → j < wr.heap.size := fun j hj => (HO.out.lt j hj).2
          have hka := (HKR7.out.under hA7).kept (HOv7.out.alloc _) HG8.out
          have hsa := (HO7.out.under hA7).kept HG8.out ((HO7.out.under hA7).ne_type (HOv7.out.alloc _) (by decide))
          have hra := ((HRa7.out.under hA7).kept HG8.out ((HRa7.out.under hA7).ne_type (HOv7.out.alloc _) (by decide))).slV
          have hrb := ((HRb7.out.under hA7).kept HG8.out ((HRb7.out.under hA7).ne_type (HOv7.out.alloc _) (by decide))).slV
          exact ⟨r + 1, _, _, _, _, _, _, _, HLT.out, by have := EZ.out; congr 1; omega, rfl, rfl, hcna, hcnb, hcma, hcmb, hra, hrb, HO8.out, hka.snoc hsa, below_own (below_alloc (below_more HB.out HV7.out HWN.out) (by have := HV7.out.size; have := HWN.out; omega) _) (by simp; have := HV7.out.size; have := HWN.out; omega) HG8.out (fun q hq => (HOv7.out.lt q hq).1)⟩
        case measure => have := HLT.out; have := EZ.out; simp [intOf]; omega
      · have f1 : ((Z : Int) == 1) = false := by simp; omega
        have f2 : ((Z : Int) == 2) = false := by simp; omega
        have f9 : ((Z : Int) == 9) = false := by simp; omega
        have f16 : ((Z : Int) == 16) = true := by simp; omega
        have H0 := Lib.hid h0
        have HLC := Lib.hid lc
        have HLD := Lib.hid ld
        clear eZ hlt hr
        go_wp2
        clear f1 f2 f9 f16
        have hdra : Below wr.heap.size wr wr.drew := below_drew _
        have hdsa : wr.drew.heap.size = wr.heap.size := rfl
        refine wp_region_held (S := fun w9 => Below wr.heap.size wr w9) (by kernel_rfl) ?_
        show wpAnyH _ _ _ _ _ 10 _ _ wr.drew
        obtain ⟨ua0, eua⟩ : ∃ u0, wr.drew = u0 := ⟨_, rfl⟩
        rw [eua] at hdra hdsa ⊢
        refine wpAnyH_take (i := 1) rfl (by kernel_rfl) (by kernel_rfl) (by kernel_rfl) (fun _ _ _ h => h) (yields_val (by kernel_rfl) (.slice (some ⟨gc, oc, none⟩) 28 cc) (fun w => by kernel_rfl)) hdra ?_
        refine wpAnyH_take (i := 2) rfl (by kernel_rfl) (by kernel_rfl) (by kernel_rfl) (fun _ _ _ h => h) (yields_val (by kernel_rfl) (.int .i64 1) (fun w => by kernel_rfl)) hdra ?_
        refine wpAnyH_take (i := 3) rfl (by kernel_rfl) (by kernel_rfl) (by kernel_rfl) (fun _ _ _ h => h) (yields_from (by kernel_rfl) _ _ rfl gc oc 28 cc 1 (by kernel_rfl) (by kernel_rfl) (by decide) (by omega) (by omega)) hdra ?_
        refine wpAnyH_take (i := 5) rfl (by kernel_rfl) (by kernel_rfl) (by kernel_rfl) (fun _ _ _ h => h) (yields_val (by kernel_rfl) (.slice (some ⟨gc, oc, none⟩) 28 cc) (fun w => by kernel_rfl)) hdra ?_
        refine wpAnyH_take (i := 6) rfl (by kernel_rfl) (by kernel_rfl) (by kernel_rfl) (fun _ _ _ h => h) (yields_val (by kernel_rfl) (.int .i64 1) (fun w => by kernel_rfl)) hdra ?_
        refine wpAnyH_take (i := 7) rfl (by kernel_rfl) (by kernel_rfl) (by kernel_rfl) (fun _ _ _ h => h) (yields_to (by kernel_rfl) _ _ rfl gc oc 28 cc 1 (by kernel_rfl) (by kernel_rfl) (by omega)) hdra ?_
        refine wpAnyH_all (rs := [0]) (by kernel_rfl) (by decide) ?_
        intro i0 hi0
        obtain rfl : i0 = 0 := by simpa using hi0
        refine wpOp_run rfl (by kernel_rfl) (.slice (some ⟨ua0.heap.size, 0, none⟩) 0 0) (ua0.alloc (.cells #[] intt)) (by kernel_rfl) ?_
        have hS1a : Below wr.heap.size wr (ua0.alloc (.cells #[] intt)) := below_alloc hdra (by omega) _
        have hQ1a := ownV_lit0 ua0 wr.heap.size intt (Nat.le_of_eq hdsa.symm)
        have hz1a : wr.heap.size ≤ (ua0.alloc (.cells #[] intt)).heap.size := by simp; omega
        obtain ⟨gaa, egaa⟩ : ∃ g, ua0.heap.size = g := ⟨_, rfl⟩
        rw [egaa] at hQ1a ⊢
        generalize ua0.alloc (.cells #[] intt) = ua1 at hS1a hQ1a hz1a ⊢
        refine ⟨hS1a, ?_⟩
        refine wpAnyH_all (rs := [4]) (by kernel_rfl) (by decide) ?_
        intro i1 hi1
        obtain rfl : i1 = 4 := by simpa using hi1
        refine wpOp_append_v rfl (by kernel_rfl) hu_isl hi_int (by decide) (by decide) rfl _ _ rfl wr.heap.size _ [] (by kernel_rfl) hQ1a _ _ _ ((Is (nb (cdTo x r).1 28)).drop 1) (by kernel_rfl) ((HC.out.below (hS1a)).drop (by rw [Is_len, nb_len]; decide)) (by rw [Is_drop]; exact Is_one _) (by simp [Is_len, nb_len]) hz1a ?_
        intro vaa ua2 hQ2a hG2a
        rw [List.nil_append] at hQ2a
        have hS2a : Below wr.heap.size wr ua2 := below_own hS1a hz1a hG2a (fun q hq => (hQ1a.lt q hq).1)
        have hz2a : wr.heap.size ≤ ua2.heap.size := hS2a.size
        refine ⟨hS2a, ?_⟩
        refine wpAnyH_all (rs := [8]) (by kernel_rfl) (by decide) ?_
        intro i2 hi2
        obtain rfl : i2 = 8 := by simpa using hi2
        refine wpOp_append_v rfl (by kernel_rfl) hu_isl hi_int (by decide) (by decide) rfl _ _ rfl wr.heap.size _ ((Is (nb (cdTo x r).1 28)).drop 1) (by kernel_rfl) hQ2a _ _ _ ((Is (nb (cdTo x r).1 28)).take 1) (by kernel_rfl) ((HC.out.below (hS2a)).take (by rw [Is_len, nb_len]; decide)) (by rw [Is_take]; exact Is_one _) (by simp [Is_len, nb_len]) hz2a ?_
        intro vba ua3 hQ3a hG3a
        have hS3a : Below wr.heap.size wr ua3 := below_own hS2a hz2a hG3a (fun q hq => (hQ2a.lt q hq).1)
        refine ⟨hS3a, ?_⟩
        rw [Is_drop, Is_take, ← Is_app, nb_rot _ 1 (lc) (by decide)] at hQ3a
        have hRa : OwnV ua3 wr.heap.size intt vba (Is (nb (cdTo x (r + 1)).1 28)) := by have e : shOf r = 1 := (by unfold shOf; first | (rw [if_pos (by omega)]) | (rw [if_neg (by omega)])); show OwnV _ _ _ _ (Is (nb (rot28 (cdTo x r).1 (shOf r)) 28)); rw [e]; exact hQ3a
        obtain ⟨gna, cna, ena, hgna, _, _, hcna, hcma⟩ := hRa.form (by rw [Is_len, nb_len]; decide)
        rw [Is_len, nb_len] at ena hcna
        subst ena
        refine wpAnyH_take (i := 9) rfl (by kernel_rfl) (by kernel_rfl) (by kernel_rfl) (fun _ _ _ h => h) (yields_val (by kernel_rfl) (.slice (some ⟨gna, 0, none⟩) 28 cna) (fun w => by kernel_rfl)) hS3a ?_
        refine wpAnyH_done (by kernel_rfl) ?_ _
        simp only [Act.put, List.getElem_toArray, List.getElem_cons_succ, List.getElem_cons_zero, List.setIfInBounds_toArray, List.set_cons_succ, List.set_cons_zero]
        have HRa := Lib.hid hRa
        have HSa := Lib.hid hS3a
        clear hRa hS3a hQ3a hG3a hS2a hQ2a hG2a hz2a hS1a hQ1a hz1a hdra hdsa eua egaa
        have HD2 := Lib.hid (HD.out.below HSa.out)
        go_wp2
        have hdrb : Below ua3.heap.size ua3 ua3.drew := below_drew _
        have hdsb : ua3.drew.heap.size = ua3.heap.size := rfl
        refine wp_region_held (S := fun w9 => Below ua3.heap.size ua3 w9) (by kernel_rfl) ?_
        show wpAnyH _ _ _ _ _ 10 _ _ ua3.drew
        obtain ⟨ub0, eub⟩ : ∃ u0, ua3.drew = u0 := ⟨_, rfl⟩
        rw [eub] at hdrb hdsb ⊢
        refine wpAnyH_take (i := 1) rfl (by kernel_rfl) (by kernel_rfl) (by kernel_rfl) (fun _ _ _ h => h) (yields_val (by kernel_rfl) (.slice (some ⟨gd, od, none⟩) 28 cd) (fun w => by kernel_rfl)) hdrb ?_
        refine wpAnyH_take (i := 2) rfl (by kernel_rfl) (by kernel_rfl) (by kernel_rfl) (fun _ _ _ h => h) (yields_val (by kernel_rfl) (.int .i64 1) (fun w => by kernel_rfl)) hdrb ?_
        refine wpAnyH_take (i := 3) rfl (by kernel_rfl) (by kernel_rfl) (by kernel_rfl) (fun _ _ _ h => h) (yields_from (by kernel_rfl) _ _ rfl gd od 28 cd 1 (by kernel_rfl) (by kernel_rfl) (by decide) (by omega) (by omega)) hdrb ?_
        refine wpAnyH_take (i := 5) rfl (by kernel_rfl) (by kernel_rfl) (by kernel_rfl) (fun _ _ _ h => h) (yields_val (by kernel_rfl) (.slice (some ⟨gd, od, none⟩) 28 cd) (fun w => by kernel_rfl)) hdrb ?_
        refine wpAnyH_take (i := 6) rfl (by kernel_rfl) (by kernel_rfl) (by kernel_rfl) (fun _ _ _ h => h) (yields_val (by kernel_rfl) (.int .i64 1) (fun w => by kernel_rfl)) hdrb ?_
        refine wpAnyH_take (i := 7) rfl (by kernel_rfl) (by kernel_rfl) (by kernel_rfl) (fun _ _ _ h => h) (yields_to (by kernel_rfl) _ _ rfl gd od 28 cd 1 (by kernel_rfl) (by kernel_rfl) (by omega)) hdrb ?_
        refine wpAnyH_all (rs := [0]) (by kernel_rfl) (by decide) ?_
        intro i0 hi0
        obtain rfl : i0 = 0 := by simpa using hi0
        refine wpOp_run rfl (by kernel_rfl) (.slice (some ⟨ub0.heap.size, 0, none⟩) 0 0) (ub0.alloc (.cells #[] intt)) (by kernel_rfl) ?_
        have hS1b : Below ua3.heap.size ua3 (ub0.alloc (.cells #[] intt)) := below_alloc hdrb (by omega) _
        have hQ1b := ownV_lit0 ub0 ua3.heap.size intt (Nat.le_of_eq hdsb.symm)
        have hz1b : ua3.heap.size ≤ (ub0.alloc (.cells #[] intt)).heap.size := by simp; omega
        obtain ⟨gab, egab⟩ : ∃ g, ub0.heap.size = g := ⟨_, rfl⟩
        rw [egab] at hQ1b ⊢
        generalize ub0.alloc (.cells #[] intt) = ub1 at hS1b hQ1b hz1b ⊢
        refine ⟨hS1b, ?_⟩
        refine wpAnyH_all (rs := [4]) (by kernel_rfl) (by decide) ?_
        intro i1 hi1
        obtain rfl : i1 = 4 := by simpa using hi1
        refine wpOp_append_v rfl (by kernel_rfl) hu_isl hi_int (by decide) (by decide) rfl _ _ rfl ua3.heap.size _ [] (by kernel_rfl) hQ1b _ _ _ ((Is (nb (cdTo x r).2 28)).drop 1) (by kernel_rfl) ((HD2.out.below (hS1b)).drop (by rw [Is_len, nb_len]; decide)) (by rw [Is_drop]; exact Is_one _) (by simp [Is_len, nb_len]) hz1b ?_
        intro vab ub2 hQ2b hG2b
        rw [List.nil_append] at hQ2b
        have hS2b : Below ua3.heap.size ua3 ub2 := below_own hS1b hz1b hG2b (fun q hq => (hQ1b.lt q hq).1)
        have hz2b : ua3.heap.size ≤ ub2.heap.size := hS2b.size
        refine ⟨hS2b, ?_⟩
        refine wpAnyH_all (rs := [8]) (by kernel_rfl) (by decide) ?_
        intro i2 hi2
        obtain rfl : i2 = 8 := by simpa using hi2
        refine wpOp_append_v rfl (by kernel_rfl) hu_isl hi_int (by decide) (by decide) rfl _ _ rfl ua3.heap.size _ ((Is (nb (cdTo x r).2 28)).drop 1) (by kernel_rfl) hQ2b _ _ _ ((Is (nb (cdTo x r).2 28)).take 1) (by kernel_rfl) ((HD2.out.below (hS2b)).take (by rw [Is_len, nb_len]; decide)) (by rw [Is_take]; exact Is_one _) (by simp [Is_len, nb_len]) hz2b ?_
        intro vbb ub3 hQ3b hG3b
        have hS3b : Below ua3.heap.size ua3 ub3 := below_own hS2b hz2b hG3b (fun q hq => (hQ2b.lt q hq).1)
        refine ⟨hS3b, ?_⟩
        rw [Is_drop, Is_take, ← Is_app, nb_rot _ 1 (ld) (by decide)] at hQ3b
        have hRb : OwnV ub3 ua3.heap.size intt vbb (Is (nb (cdTo x (r + 1)).2 28)) := by have e : shOf r = 1 := (by unfold shOf; first | (rw [if_pos (by omega)]) | (rw [if_neg (by omega)])); show OwnV _ _ _ _ (Is (nb (rot28 (cdTo x r).2 (shOf r)) 28)); rw [e]; exact hQ3b
        obtain ⟨gnb, cnb, enb, hgnb, _, _, hcnb, hcmb⟩ := hRb.form (by rw [Is_len, nb_len]; decide)
        rw [Is_len, nb_len] at enb hcnb
        subst enb
        refine wpAnyH_take (i := 9) rfl (by kernel_rfl) (by kernel_rfl) (by kernel_rfl) (fun _ _ _ h => h) (yields_val (by kernel_rfl) (.slice (some ⟨gnb, 0, none⟩) 28 cnb) (fun w => by kernel_rfl)) hS3b ?_
        refine wpAnyH_done (by kernel_rfl) ?_ _
        simp only [Act.put, List.getElem_toArray, List.getElem_cons_succ, List.getElem_cons_zero, List.setIfInBounds_toArray, List.set_cons_succ, List.set_cons_zero]
        have HRb := Lib.hid hRb
        have HSb := Lib.hid hS3b
        clear hRb hS3b hQ3b hG3b hS2b hQ2b hG2b hz2b hS1b hQ1b hz1b hdrb hdsb eub egab
        have HSab := Lib.hid (below_more HSa.out HSb.out HSa.out.size)
        have HRa2 := Lib.hid (HRa.out.under HSb.out)
        have hzz : wr.heap.size ≤ ub3.heap.size := HSab.out.size
        have hnz : N ≤ ub3.heap.size := Nat.le_trans HWN.out hzz
        go_wp2_with (first
          | (at_builtin; (with_reducible show wpList _ _ _ _ _ (World.alloc ub3 _)); refine append_v hu_isl hi_int (by decide) (by decide) rfl rfl _ _ rfl ub3.heap.size _ [] (by rfl) (ownV_lit0 ub3 _ intt (Nat.le_refl _)) _ (Is (nb (cdTo x (r + 1)).1 28)) (by rfl) (HRa2.out.slV.alloc _) (Is_one _) (by simp [Is_len, nb_len]) (by simp) ?_; intro vq1 w5 hQ1 hG1; rw [List.nil_append] at hQ1; have HQ1 := Lib.hid hQ1; have HS5 := Lib.hid (show Below ub3.heap.size ub3 w5 from below_new ((Below.refl _ _).alloc (Nat.le_refl _) _) (by simp) hG1 (Nat.le_refl _)); have HR5 := Lib.hid (HRb.out.under HS5.out); have HRa5 := Lib.hid (HRa2.out.under HS5.out); clear hQ1 hG1)
          | (at_builtin; (with_reducible show wpList _ _ _ _ _ w5); refine append_v hu_isl hi_int (by decide) (by decide) rfl rfl _ _ rfl ub3.heap.size _ (Is (nb (cdTo x (r + 1)).1 28)) (by rfl) HQ1.out _ (Is (nb (cdTo x (r + 1)).2 28)) (by rfl) HR5.out.slV (Is_one _) (by simp [Is_len, nb_len]) HS5.out.size ?_; intro vq2 w6 hQ2 hG2; rw [← Is_app] at hQ2; have HQ2 := Lib.hid hQ2; have HS6 := Lib.hid (show Below ub3.heap.size ub3 w6 from below_own HS5.out HS5.out.size hG2 (fun q hq => (HQ1.out.lt q hq).1)); clear hQ2 hG2)
          | (go_at_call 106; (with_reducible show Calls _ _ _ w6 _); refine (rperm_any _ (nb (cdTo x (r + 1)).1 28 ++ nb (cdTo x (r + 1)).2 28) strPC2 tabPC2 w6 HQ2.out.slV tells_PC2 (by rw [len_PC2]; decide) (by rw [List.length_append, nb_len, nb_len]; exact le_PC2b) (by rw [List.length_append, nb_len, nb_len]; decide)).mono ?_; rintro e w7 ⟨vk, rfl, hO7, hL7⟩; rw [HNR.out] at hO7; have hS7 : Below ub3.heap.size ub3 w7 := (below_more HS6.out hL7 HS6.out.size); have HS7 := Lib.hid hS7; have HV7 := Lib.hid (show Below wr.heap.size wr w7 from below_more HSab.out hS7 hzz); have HO7 := Lib.hid (hO7.lower (show N ≤ w6.heap.size from Nat.le_trans hnz HS6.out.size)); have HRa7 := Lib.hid (HRa2.out.under hS7); have HRb7 := Lib.hid (HRb.out.under hS7); have HKR7 := Lib.hid (HKR.out.under HV7.out); have HOv7 := Lib.hid (HO.out.under HV7.out); obtain ⟨gk, ck, ek, _, _, _, _, _⟩ := hO7.form (by rw [Is_len, nb_len]; decide); rw [Is_len, nb_len] at ek; subst ek; clear hO7 hL7 hS7)
          | (at_builtin; (with_reducible show wpList _ _ _ _ _ (World.alloc w7 _)); refine append_v hu_issl hi_isl (by decide) (by decide) rfl rfl _ _ rfl N _ vs (by rfl) (HOv7.out.alloc _) _ [.slice (some ⟨gk, 0, none⟩) 48 ck] (by rfl) (one_slV w7 _ islt) (by intro u hu; simp at hu; subst hu; rfl) (by have := HKR.out.1; have := HLT.out; simp; omega) (by simp; have := HV7.out.size; have := HWN.out; omega) ?_; intro vo w8 hO8 hG8; have HO8 := Lib.hid hO8; have HG8 := Lib.hid hG8; clear hO8 hG8))
        go_roundw
        case rel =>
          have hA7 : Below w7.heap.size w7 (w7.alloc (.cells #[.slice (some ⟨gk, 0, none⟩) 48 ck] islt)) := below_alloc (Below.refl _ _) (Nat.le_refl _) _
          have hob : ∀ j, Value.ownBlock _ = some j → j < wr.heap.size := fun j hj => (HO.out.lt j hj).2
          have hka := (HKR7.out.under hA7).kept (HOv7.out.alloc _) HG8.out
          have hsa := (HO7.out.under hA7).kept HG8.out ((HO7.out.under hA7).ne_type (HOv7.out.alloc _) (by decide))
          have hra := ((HRa7.out.under hA7).kept HG8.out ((HRa7.out.under hA7).ne_type (HOv7.out.alloc _) (by decide))).slV
          have hrb := ((HRb7.out.under hA7).kept HG8.out ((HRb7.out.under hA7).ne_type (HOv7.out.alloc _) (by decide))).slV
          exact ⟨r + 1, _, _, _, _, _, _, _, HLT.out, by have := EZ.out; congr 1; omega, rfl, rfl, hcna, hcnb, hcma, hcmb, hra, hrb, HO8.out, hka.snoc hsa, below_own (below_alloc (below_more HB.out HV7.out HWN.out) (by have := HV7.out.size; have := HWN.out; omega) _) (by simp; have := HV7.out.size; have := HWN.out; omega) HG8.out (fun q hq => (HOv7.out.lt q hq).1)⟩
        case measure => have := HLT.out; have := EZ.out; simp [intOf]; omega
      · have f1 : ((Z : Int) == 1) = false := by simp; omega
        have f2 : ((Z : Int) == 2) = false := by simp; omega
        have f9 : ((Z : Int) == 9) = false := by simp; omega
        have f16 : ((Z : Int) == 16) = false := by simp; omega
        have H0 := Lib.hid h0
        have HLC := Lib.hid lc
        have HLD := Lib.hid ld
        clear eZ hlt hr
        go_wp2
        clear f1 f2 f9 f16
        have hdra : Below wr.heap.size wr wr.drew := below_drew _
        have hdsa : wr.drew.heap.size = wr.heap.size := rfl
        refine wp_region_held (S := fun w9 => Below wr.heap.size wr w9) (by kernel_rfl) ?_
        show wpAnyH _ _ _ _ _ 10 _ _ wr.drew
        obtain ⟨ua0, eua⟩ : ∃ u0, wr.drew = u0 := ⟨_, rfl⟩
        rw [eua] at hdra hdsa ⊢
        refine wpAnyH_take (i := 1) rfl (by kernel_rfl) (by kernel_rfl) (by kernel_rfl) (fun _ _ _ h => h) (yields_val (by kernel_rfl) (.slice (some ⟨gc, oc, none⟩) 28 cc) (fun w => by kernel_rfl)) hdra ?_
        refine wpAnyH_take (i := 2) rfl (by kernel_rfl) (by kernel_rfl) (by kernel_rfl) (fun _ _ _ h => h) (yields_val (by kernel_rfl) (.int .i64 2) (fun w => by kernel_rfl)) hdra ?_
        refine wpAnyH_take (i := 3) rfl (by kernel_rfl) (by kernel_rfl) (by kernel_rfl) (fun _ _ _ h => h) (yields_from (by kernel_rfl) _ _ rfl gc oc 28 cc 2 (by kernel_rfl) (by kernel_rfl) (by decide) (by omega) (by omega)) hdra ?_
        refine wpAnyH_take (i := 5) rfl (by kernel_rfl) (by kernel_rfl) (by kernel_rfl) (fun _ _ _ h => h) (yields_val (by kernel_rfl) (.slice (some ⟨gc, oc, none⟩) 28 cc) (fun w => by kernel_rfl)) hdra ?_
        refine wpAnyH_take (i := 6) rfl (by kernel_rfl) (by kernel_rfl) (by kernel_rfl) (fun _ _ _ h => h) (yields_val (by kernel_rfl) (.int .i64 2) (fun w => by kernel_rfl)) hdra ?_
        refine wpAnyH_take (i := 7) rfl (by kernel_rfl) (by kernel_rfl) (by kernel_rfl) (fun _ _ _ h => h) (yields_to (by kernel_rfl) _ _ rfl gc oc 28 cc 2 (by kernel_rfl) (by kernel_rfl) (by omega)) hdra ?_
        refine wpAnyH_all (rs := [0]) (by kernel_rfl) (by decide) ?_
        intro i0 hi0
        obtain rfl : i0 = 0 := by simpa using hi0
        refine wpOp_run rfl (by kernel_rfl) (.slice (some ⟨ua0.heap.size, 0, none⟩) 0 0) (ua0.alloc (.cells #[] intt)) (by kernel_rfl) ?_
        have hS1a : Below wr.heap.size wr (ua0.alloc (.cells #[] intt)) := below_alloc hdra (by omega) _
        have hQ1a := ownV_lit0 ua0 wr.heap.size intt (Nat.le_of_eq hdsa.symm)
        have hz1a : wr.heap.size ≤ (ua0.alloc (.cells #[] intt)).heap.size := by simp; omega
        obtain ⟨gaa, egaa⟩ : ∃ g, ua0.heap.size = g := ⟨_, rfl⟩
        rw [egaa] at hQ1a ⊢
        generalize ua0.alloc (.cells #[] intt) = ua1 at hS1a hQ1a hz1a ⊢
        refine ⟨hS1a, ?_⟩
        refine wpAnyH_all (rs := [4]) (by kernel_rfl) (by decide) ?_
        intro i1 hi1
        obtain rfl : i1 = 4 := by simpa using hi1
        refine wpOp_append_v rfl (by kernel_rfl) hu_isl hi_int (by decide) (by decide) rfl _ _ rfl wr.heap.size _ [] (by kernel_rfl) hQ1a _ _ _ ((Is (nb (cdTo x r).1 28)).drop 2) (by kernel_rfl) ((HC.out.below (hS1a)).drop (by rw [Is_len, nb_len]; decide)) (by rw [Is_drop]; exact Is_one _) (by simp [Is_len, nb_len]) hz1a ?_
        intro vaa ua2 hQ2a hG2a
        rw [List.nil_append] at hQ2a
        have hS2a : Below wr.heap.size wr ua2 := below_own hS1a hz1a hG2a (fun q hq => (hQ1a.lt q hq).1)
        have hz2a : wr.heap.size ≤ ua2.heap.size := hS2a.size
        refine ⟨hS2a, ?_⟩
        refine wpAnyH_all (rs := [8]) (by kernel_rfl) (by decide) ?_
        intro i2 hi2
        obtain rfl : i2 = 8 := by simpa using hi2
        refine wpOp_append_v rfl (by kernel_rfl) hu_isl hi_int (by decide) (by decide) rfl _ _ rfl wr.heap.size _ ((Is (nb (cdTo x r).1 28)).drop 2) (by kernel_rfl) hQ2a _ _ _ ((Is (nb (cdTo x r).1 28)).take 2) (by kernel_rfl) ((HC.out.below (hS2a)).take (by rw [Is_len, nb_len]; decide)) (by rw [Is_take]; exact Is_one _) (by simp [Is_len, nb_len]) hz2a ?_
        intro vba ua3 hQ3a hG3a
        have hS3a : Below wr.heap.size wr ua3 := below_own hS2a hz2a hG3a (fun q hq => (hQ2a.lt q hq).1)
        refine ⟨hS3a, ?_⟩
        rw [Is_drop, Is_take, ← Is_app, nb_rot _ 2 (lc) (by decide)] at hQ3a
        have hRa : OwnV ua3 wr.heap.size intt vba (Is (nb (cdTo x (r + 1)).1 28)) := by have e : shOf r = 2 := (by unfold shOf; first | (rw [if_pos (by omega)]) | (rw [if_neg (by omega)])); show OwnV _ _ _ _ (Is (nb (rot28 (cdTo x r).1 (shOf r)) 28)); rw [e]; exact hQ3a
        obtain ⟨gna, cna, ena, hgna, _, _, hcna, hcma⟩ := hRa.form (by rw [Is_len, nb_len]; decide)
        rw [Is_len, nb_len] at ena hcna
        subst ena
        refine wpAnyH_take (i := 9) rfl (by kernel_rfl) (by kernel_rfl) (by kernel_rfl) (fun _ _ _ h => h) (yields_val (by kernel_rfl) (.slice (some ⟨gna, 0, none⟩) 28 cna) (fun w => by kernel_rfl)) hS3a ?_
        refine wpAnyH_done (by kernel_rfl) ?_ _
        simp only [Act.put, List.getElem_toArray, List.getElem_cons_succ, List.getElem_cons_zero, List.setIfInBounds_toArray, List.set_cons_succ, List.set_cons_zero]
        have HRa := Lib.hid hRa
        have HSa := Lib.hid hS3a
        clear hRa hS3a hQ3a hG3a hS2a hQ2a hG2a hz2a hS1a hQ1a hz1a hdra hdsa eua egaa
        have HD2 := Lib.hid (HD.out.below HSa.out)
        go_wp2
        have hdrb : Below ua3.heap.size ua3 ua3.drew := below_drew _
        have hdsb : ua3.drew.heap.size = ua3.heap.size := rfl
        refine wp_region_held (S := fun w9 => Below ua3.heap.size ua3 w9) (by kernel_rfl) ?_
        show wpAnyH _ _ _ _ _ 10 _ _ ua3.drew
        obtain ⟨ub0, eub⟩ : ∃ u0, ua3.drew = u0 := ⟨_, rfl⟩
        rw [eub] at hdrb hdsb ⊢
        refine wpAnyH_take (i := 1) rfl (by kernel_rfl) (by kernel_rfl) (by kernel_rfl) (fun _ _ _ h => h) (yields_val (by kernel_rfl) (.slice (some ⟨gd, od, none⟩) 28 cd) (fun w => by kernel_rfl)) hdrb ?_
        refine wpAnyH_take (i := 2) rfl (by kernel_rfl) (by kernel_rfl) (by kernel_rfl) (fun _ _ _ h => h) (yields_val (by kernel_rfl) (.int .i64 2) (fun w => by kernel_rfl)) hdrb ?_
        refine wpAnyH_take (i := 3) rfl (by kernel_rfl) (by kernel_rfl) (by kernel_rfl) (fun _ _ _ h => h) (yields_from (by kernel_rfl) _ _ rfl gd od 28 cd 2 (by kernel_rfl) (by kernel_rfl) (by decide) (by omega) (by omega)) hdrb ?_
        refine wpAnyH_take (i := 5) rfl (by kernel_rfl) (by kernel_rfl) (by kernel_rfl) (fun _ _ _ h => h) (yields_val (by kernel_rfl) (.slice (some ⟨gd, od, none⟩) 28 cd) (fun w => by kernel_rfl)) hdrb ?_
        refine wpAnyH_take (i := 6) rfl (by kernel_rfl) (by kernel_rfl) (by kernel_rfl) (fun _ _ _ h => h) (yields_val (by kernel_rfl) (.int .i64 2) (fun w => by kernel_rfl)) hdrb ?_
        refine wpAnyH_take (i := 7) rfl (by kernel_rfl) (by kernel_rfl) (by kernel_rfl) (fun _ _ _ h => h) (yields_to (by kernel_rfl) _ _ rfl gd od 28 cd 2 (by kernel_rfl) (by kernel_rfl) (by omega)) hdrb ?_
        refine wpAnyH_all (rs := [0]) (by kernel_rfl) (by decide) ?_
        intro i0 hi0
        obtain rfl : i0 = 0 := by simpa using hi0
        refine wpOp_run rfl (by kernel_rfl) (.slice (some ⟨ub0.heap.size, 0, none⟩) 0 0) (ub0.alloc (.cells #[] intt)) (by kernel_rfl) ?_
        have hS1b : Below ua3.heap.size ua3 (ub0.alloc (.cells #[] intt)) := below_alloc hdrb (by omega) _
        have hQ1b := ownV_lit0 ub0 ua3.heap.size intt (Nat.le_of_eq hdsb.symm)
        have hz1b : ua3.heap.size ≤ (ub0.alloc (.cells #[] intt)).heap.size := by simp; omega
        obtain ⟨gab, egab⟩ : ∃ g, ub0.heap.size = g := ⟨_, rfl⟩
        rw [egab] at hQ1b ⊢
        generalize ub0.alloc (.cells #[] intt) = ub1 at hS1b hQ1b hz1b ⊢
        refine ⟨hS1b, ?_⟩
        refine wpAnyH_all (rs := [4]) (by kernel_rfl) (by decide) ?_
        intro i1 hi1
        obtain rfl : i1 = 4 := by simpa using hi1
        refine wpOp_append_v rfl (by kernel_rfl) hu_isl hi_int (by decide) (by decide) rfl _ _ rfl ua3.heap.size _ [] (by kernel_rfl) hQ1b _ _ _ ((Is (nb (cdTo x r).2 28)).drop 2) (by kernel_rfl) ((HD2.out.below (hS1b)).drop (by rw [Is_len, nb_len]; decide)) (by rw [Is_drop]; exact Is_one _) (by simp [Is_len, nb_len]) hz1b ?_
        intro vab ub2 hQ2b hG2b
        rw [List.nil_append] at hQ2b
        have hS2b : Below ua3.heap.size ua3 ub2 := below_own hS1b hz1b hG2b (fun q hq => (hQ1b.lt q hq).1)
        have hz2b : ua3.heap.size ≤ ub2.heap.size := hS2b.size
        refine ⟨hS2b, ?_⟩
        refine wpAnyH_all (rs := [8]) (by kernel_rfl) (by decide) ?_
        intro i2 hi2
        obtain rfl : i2 = 8 := by simpa using hi2
        refine wpOp_append_v rfl (by kernel_rfl) hu_isl hi_int (by decide) (by decide) rfl _ _ rfl ua3.heap.size _ ((Is (nb (cdTo x r).2 28)).drop 2) (by kernel_rfl) hQ2b _ _ _ ((Is (nb (cdTo x r).2 28)).take 2) (by kernel_rfl) ((HD2.out.below (hS2b)).take (by rw [Is_len, nb_len]; decide)) (by rw [Is_take]; exact Is_one _) (by simp [Is_len, nb_len]) hz2b ?_
        intro vbb ub3 hQ3b hG3b
        have hS3b : Below ua3.heap.size ua3 ub3 := below_own hS2b hz2b hG3b (fun q hq => (hQ2b.lt q hq).1)
        refine ⟨hS3b, ?_⟩
        rw [Is_drop, Is_take, ← Is_app, nb_rot _ 2 (ld) (by decide)] at hQ3b
        have hRb : OwnV ub3 ua3.heap.size intt vbb (Is (nb (cdTo x (r + 1)).2 28)) := by have e : shOf r = 2 := (by unfold shOf; first | (rw [if_pos (by omega)]) | (rw [if_neg (by omega)])); show OwnV _ _ _ _ (Is (nb (rot28 (cdTo x r).2 (shOf r)) 28)); rw [e]; exact hQ3b
        obtain ⟨gnb, cnb, enb, hgnb, _, _, hcnb, hcmb⟩ := hRb.form (by rw [Is_len, nb_len]; decide)
        rw [Is_len, nb_len] at enb hcnb
        subst enb
        refine wpAnyH_take (i := 9) rfl (by kernel_rfl) (by kernel_rfl) (by kernel_rfl) (fun _ _ _ h => h) (yields_val (by kernel_rfl) (.slice (some ⟨gnb, 0, none⟩) 28 cnb) (fun w => by kernel_rfl)) hS3b ?_
        refine wpAnyH_done (by kernel_rfl) ?_ _
        simp only [Act.put, List.getElem_toArray, List.getElem_cons_succ, List.getElem_cons_zero, List.setIfInBounds_toArray, List.set_cons_succ, List.set_cons_zero]
        have HRb := Lib.hid hRb
        have HSb := Lib.hid hS3b
        clear hRb hS3b hQ3b hG3b hS2b hQ2b hG2b hz2b hS1b hQ1b hz1b hdrb hdsb eub egab
        have HSab := Lib.hid (below_more HSa.out HSb.out HSa.out.size)
        have HRa2 := Lib.hid (HRa.out.under HSb.out)
        have hzz : wr.heap.size ≤ ub3.heap.size := HSab.out.size
        have hnz : N ≤ ub3.heap.size := Nat.le_trans HWN.out hzz
        go_wp2_with (first
          | (at_builtin; (with_reducible show wpList _ _ _ _ _ (World.alloc ub3 _)); refine append_v hu_isl hi_int (by decide) (by decide) rfl rfl _ _ rfl ub3.heap.size _ [] (by rfl) (ownV_lit0 ub3 _ intt (Nat.le_refl _)) _ (Is (nb (cdTo x (r + 1)).1 28)) (by rfl) (HRa2.out.slV.alloc _) (Is_one _) (by simp [Is_len, nb_len]) (by simp) ?_; intro vq1 w5 hQ1 hG1; rw [List.nil_append] at hQ1; have HQ1 := Lib.hid hQ1; have HS5 := Lib.hid (show Below ub3.heap.size ub3 w5 from below_new ((Below.refl _ _).alloc (Nat.le_refl _) _) (by simp) hG1 (Nat.le_refl _)); have HR5 := Lib.hid (HRb.out.under HS5.out); have HRa5 := Lib.hid (HRa2.out.under HS5.out); clear hQ1 hG1)
          | (at_builtin; (with_reducible show wpList _ _ _ _ _ w5); refine append_v hu_isl hi_int (by decide) (by decide) rfl rfl _ _ rfl ub3.heap.size _ (Is (nb (cdTo x (r + 1)).1 28)) (by rfl) HQ1.out _ (Is (nb (cdTo x (r + 1)).2 28)) (by rfl) HR5.out.slV (Is_one _) (by simp [Is_len, nb_len]) HS5.out.size ?_; intro vq2 w6 hQ2 hG2; rw [← Is_app] at hQ2; have HQ2 := Lib.hid hQ2; have HS6 := Lib.hid (show Below ub3.heap.size ub3 w6 from below_own HS5.out HS5.out.size hG2 (fun q hq => (HQ1.out.lt q hq).1)); clear hQ2 hG2)
          | (go_at_call 106; (with_reducible show Calls _ _ _ w6 _); refine (rperm_any _ (nb (cdTo x (r + 1)).1 28 ++ nb (cdTo x (r + 1)).2 28) strPC2 tabPC2 w6 HQ2.out.slV tells_PC2 (by rw [len_PC2]; decide) (by rw [List.length_append, nb_len, nb_len]; exact le_PC2b) (by rw [List.length_append, nb_len, nb_len]; decide)).mono ?_; rintro e w7 ⟨vk, rfl, hO7, hL7⟩; rw [HNR.out] at hO7; have hS7 : Below ub3.heap.size ub3 w7 := (below_more HS6.out hL7 HS6.out.size); have HS7 := Lib.hid hS7; have HV7 := Lib.hid (show Below wr.heap.size wr w7 from below_more HSab.out hS7 hzz); have HO7 := Lib.hid (hO7.lower (show N ≤ w6.heap.size from Nat.le_trans hnz HS6.out.size)); have HRa7 := Lib.hid (HRa2.out.under hS7); have HRb7 := Lib.hid (HRb.out.under hS7); have HKR7 := Lib.hid (HKR.out.under HV7.out); have HOv7 := Lib.hid (HO.out.under HV7.out); obtain ⟨gk, ck, ek, _, _, _, _, _⟩ := hO7.form (by rw [Is_len, nb_len]; decide); rw [Is_len, nb_len] at ek; subst ek; clear hO7 hL7 hS7)
          | (at_builtin; (with_reducible show wpList _ _ _ _ _ (World.alloc w7 _)); refine append_v hu_issl hi_isl (by decide) (by decide) rfl rfl _ _ rfl N _ vs (by rfl) (HOv7.out.alloc _) _ [.slice (some ⟨gk, 0, none⟩) 48 ck] (by rfl) (one_slV w7 _ islt) (by intro u hu; simp at hu; subst hu; rfl) (by have := HKR.out.1; have := HLT.out; simp; omega) (by simp; have := HV7.out.size; have := HWN.out; omega) ?_; intro vo w8 hO8 hG8; have HO8 := Lib.hid hO8; have HG8 := Lib.hid hG8; clear hO8 hG8))
        go_roundw
        case rel =>
          have hA7 : Below w7.heap.size w7 (w7.alloc (.cells #[.slice (some ⟨gk, 0, none⟩) 48 ck] islt)) := below_alloc (Below.refl _ _) (Nat.le_refl _) _
          have hob : ∀ j, Value.ownBlock _ = some j → j < wr.heap.size := fun j hj => (HO.out.lt j hj).2
          have hka := (HKR7.out.under hA7).kept (HOv7.out.alloc _) HG8.out
          have hsa := (HO7.out.under hA7).kept HG8.out ((HO7.out.under hA7).ne_type (HOv7.out.alloc _) (by decide))
          have hra := ((HRa7.out.under hA7).kept HG8.out ((HRa7.out.under hA7).ne_type (HOv7.out.alloc _) (by decide))).slV
          have hrb := ((HRb7.out.under hA7).kept HG8.out ((HRb7.out.under hA7).ne_type (HOv7.out.alloc _) (by decide))).slV
          exact ⟨r + 1, _, _, _, _, _, _, _, HLT.out, by have := EZ.out; congr 1; omega, rfl, rfl, hcna, hcnb, hcma, hcmb, hra, hrb, HO8.out, hka.snoc hsa, below_own (below_alloc (below_more HB.out HV7.out HWN.out) (by have := HV7.out.size; have := HWN.out; omega) _) (by simp; have := HV7.out.size; have := HWN.out; omega) HG8.out (fun q hq => (HOv7.out.lt q hq).1)⟩
        case measure => have := HLT.out; have := EZ.out; simp [intOf]; omega
    · obtain rfl : r = 16 := by omega
      have hZi : ¬ (Z : Int) ≤ 16 := by omega
      clear eZ
      go_wp2
      go_ret
      exact ⟨_, vs, rfl, by rw [HN.out]; exact HO.out, by rw [HN.out, HX.out]; exact HKR.out, by rw [HN.out]; exact HB.out⟩
end Go.Proofs.YtbbfjlnkhenbiaaGreatDoor
set_option linter.unusedVariables false
set_option linter.unusedSimpArgs false
namespace Lk
open Go Go.RowKit
/-- both halves' bits laid where the table says -/
def ipTo (z : Nat) : Nat → List Int
  | 0 => List.replicate 64 0
  | i + 1 => (ipTo z i).set (tabIP.getD i 0 - 1) (tb z (63 - i))
theorem ipTo_len (z n : Nat) : (ipTo z n).length = 64 := by
  induction n with
  | zero => exact List.length_replicate ..
  | succ n ih => rw [ipTo, List.length_set, ih]
theorem getD_set (l : List Int) (q p : Nat) (x : Int) (hq : q < l.length) : (l.set q x).getD p 0 = if q = p then x else l.getD p 0 := by
  simp only [List.getD_eq_getElem?_getD, List.getElem?_set]
  split
  · subst_vars; simp [hq]
  · rfl
theorem ip_range : ∀ j, j < 64 → 1 ≤ tabIP.getD j 0 ∧ tabIP.getD j 0 ≤ 64 := by decide +kernel
theorem ipTo_hit (z p j : Nat) (hj : j < 64) (hp : tabIP.getD j 0 - 1 = p) : ∀ n, j < n → n ≤ 64 → (ipTo z n).getD p 0 = tb z (63 - j)
  | 0, h, _ => absurd h (by omega)
  | n + 1, h, h64 => by
    have hn := ip_range n (by omega)
    have hjr := ip_range j hj
    rw [ipTo, getD_set _ _ _ _ (by rw [ipTo_len]; omega)]
    by_cases e : j = n
    · subst e; rw [if_pos hp]
    · rw [if_neg (fun e2 => e (ip_once j hj n (by omega) (by omega)))]
      exact ipTo_hit z p j hj hp n (by omega) (by omega)
theorem ipTo_all (z : Nat) : ipTo z 64 = nb (unperm z tabIP) 64 := by
  apply ext_d
  · rw [ipTo_len, nb_len]
  · intro p hp
    rw [ipTo_len] at hp
    obtain ⟨j, hj, e⟩ := ip_hits (63 - p) (by omega)
    have hj' := List.mem_range.1 hj
    have hr := ip_range j hj'
    rw [ipTo_hit z p j hj' (by omega) 64 hj' (by omega), nb_at _ _ _ hp]
    apply tb_eq
    rw [show 64 - 1 - p = 63 - p from rfl, unperm_tb]
    refine (any_at (fun i hi hpi => ?_) fun hb => ⟨j, hj, by rw [e, hb]; simp⟩).symm
    simp only [Bool.and_eq_true, beq_iff_eq] at hpi
    have : j = i := ip_once j hj' i (List.mem_range.1 hi) (by omega)
    rw [this]; exact hpi.2
theorem nb_lr0 (y : Nat) (ks : List Nat) (back : Bool) : (nb y 64).take 32 = nb (lrTo ks back y 0).1 32 ∧ (nb y 64).drop 32 = nb (lrTo ks back y 0).2 32 := by
  refine ⟨?_, ?_⟩
  · rw [show (64 : Nat) = 32 + 32 from rfl, nb_take]
    have e : (lrTo ks back y 0).1 = y / 2 ^ 32 := by unfold lrTo; rfl
    rw [e]
  · rw [show (64 : Nat) = 32 + 32 from rfl, nb_drop]
    refine nb_congr fun i hi => ?_
    have e : (lrTo ks back y 0).2 = y &&& 4294967295 := by unfold lrTo; rfl
    rw [e, Nat.testBit_and, show (4294967295 : Nat) = 2 ^ 32 - 1 from rfl, Nat.testBit_two_pow_sub_one]
    simp [hi]
theorem tb_xor2 (x y i : Nat) : Go.bits .xor .i64 (tb x i) (tb y i) = tb (x ^^^ y) i := by
  rw [tb_xor, tb_bool, Nat.testBit_xor]
theorem nb_both (l r : Nat) (hl : l < 4294967296) : nb r 32 ++ nb l 32 = nb (r * 4294967296 ||| l) 64 := by
  have h : l < 2 ^ 32 := by omega
  have e := or_add r l 32 h
  have e2 := nb_app r l 32 32 h
  rw [show (2 : Nat) ^ 32 = 4294967296 from rfl] at e e2
  rw [e]; exact e2.symm
section
variable {P : Program} {ops : Array Oper} {rest : List Oper} {o : Oper} {a : Act} {w : World} {Q : Exit → Act → World → Prop} {K : Act → World → Prop} {i : Nat}
theorem make_i (hgd : o.guard = none) (t : TypeId) (l c : Operand) (ho : o.op = .makeSlice t l c) (n : Nat) (vl vc : Value) (hl : a.eval l = vl) (hc : a.eval c = vc) (cells : Array Value) (T : TypeId)
    (hr : ∀ w : World, (Instr.makeSlice t vl vc).run P w = .ok (.slice (some ⟨w.heap.size, 0, none⟩) n n) (w.alloc (.cells cells T)))
    (h : ∀ w1, w1.heap[w.heap.size]? = some (.cells cells T (0, 0)) → w.grownBy w1 none → w1.heap.size = w.heap.size + 1 → wpList P ops Q rest (a.put o.dst (.slice (some ⟨w.heap.size, 0, none⟩) n n)) w1) : wpList P ops Q (o :: rest) a w :=
  wpList_plain hgd fun _ hK => by
    unfold Oper.wp execOp
    simp only [ho, hl, hc, Sem.run_bind, hr, Result.andThen_ok]
    exact hK _ _ (h _ (heap_alloc_new w _) (grown_alloc (grown_refl w none) _) (by show (w.heap.push _).size = _; simp))
/-- the block holds these whole numbers -/
def IB (w : World) (g T : Nat) (l : List Int) : Prop := w.heap[g]? = some (.cells (Is l).toArray T (0, 0))
theorem IB.set {w : World} {g T : Nat} {l : List Int} (h : IB w g T l) (k : Nat) (x : Int) : IB (w.setCell ⟨g, k, none⟩ (.int .i64 x)) g T (l.set k x) := by
  unfold IB
  rw [heap_setCell_same w g k _ T _ h]; simp [Is, List.map_set]
theorem IB.under {w w1 : World} {g T : Nat} {l : List Int} (h : IB w g T l) (hL : Below w.heap.size w w1) : IB w1 g T l := by
  unfold IB
  rw [hL.block g (Array.getElem?_eq_some_iff.1 h).1]; exact h
theorem IB.lt {w : World} {g T : Nat} {l : List Int} (h : IB w g T l) : g < w.heap.size := (Array.getElem?_eq_some_iff.1 h).1
theorem IB.cell {w : World} {g T : Nat} {l : List Int} (h : IB w g T l) (k : Nat) (hk : k < l.length) : w.cell? ⟨g, k, none⟩ = some (.int .i64 (l.getD k 0)) := by
  rw [cell_of_row w g k _ T _ h]; simpa using Is_get l k hk
theorem IB.free {w : World} {g T : Nat} {l : List Int} (h : IB w g T l) (k : Nat) : w.frozen? ⟨g, k, none⟩ = false := frozen_of_row w g k _ T h
theorem IB.slV {w : World} {g T n : Nat} {l : List Int} (h : IB w g T l) (hl : l.length = n) (hn : n ≤ maxLen) : SlV w (.slice (some ⟨g, 0, none⟩) n n) (Is l) :=
  ⟨_, n, by rw [Is_len, hl], fun h => (by cases h), by rw [Is_len, hl]; exact Nat.le_refl _, hn, fun _ => ⟨g, 0, rfl, fun k x hk => by rw [Nat.zero_add, cell_of_row w g k _ T _ h]; simpa using hk⟩⟩
end
end Lk
namespace Go.Proofs.YtbbfjlnkhenbiaaGreatDoor
open Go Go.RowKit Lk
theorem IP_in : ∀ k, k < tabIP.length → 1 ≤ tabIP.getD k 0 ∧ tabIP.getD k 0 ≤ 64 := by decide +kernel
set_option maxHeartbeats 12800000 in
set_option maxRecDepth 100000 in
theorem rBlock_false (vk vb : Value) (key b : List UInt8) (w : World) (hk : SlB w vk key) (hkl : key.length = 8) (hb : SlB w vb b) (hbl : b.length = 8) :
    Calls Tryz.prog 90 #[vk, vb, .bool false] w fun e w' => ∃ v, e = .returned v ∧ Own w' w.heap.size v (dblock key b false) ∧ Below w.heap.size w w' := by
  obtain ⟨N, hN⟩ : ∃ N, w.heap.size = N := ⟨_, rfl⟩
  have HN := Lib.hid hN
  have HKY := Lib.hid (Keys_any vk key w hk hkl)
  have HBB := Lib.hid (fun (w1 : World) (hL : Below w.heap.size w w1) => Bits_any vb b w1 (hb.below hL) (by omega))
  rw [pbits_num b hbl] at HBB
  obtain ⟨y, hy⟩ : ∃ y, perm (num b) 64 tabIP = y := ⟨_, rfl⟩
  have HYL := Lib.hid (show y < 2 ^ 64 by rw [← hy]; exact perm_IP_lt _)
  have HP1 := Lib.hid (show lperm (nb (num b) 64) tabIP = nb y 64 by rw [lperm_nb _ 64 tabIP IP_in, len_IP, hy])
  obtain ⟨ks, hks⟩ : ∃ ks, dkeys key = ks := ⟨_, rfl⟩
  have HGK := Lib.hid (show ∀ r, r < 16 → dkeyOf (perm (num key) 64 tabPC1) r = gN ks r from fun r hr => by rw [← hks]; exact (gN_dkeys key r hr).symm)
  have HDB := Lib.hid (show dblock key b false = pbytes (unperm ((lrTo ks false y 16).2 * 4294967296 ||| (lrTo ks false y 16).1) tabIP) by unfold dblock; rw [hy, hks])
  obtain ⟨A, c, rfl, _⟩ := hk
  obtain ⟨A9, c9, rfl, _⟩ := hb
  clear hN hy hks hkl hbl
  go_enter Tryz.func90, Tryz.ntmps90
  go_wp2_with (first
    | (go_at_call 105; refine HKY.out.mono ?_; rintro e w1 ⟨v1, vs, rfl, hO1, hK1, hL1⟩; have HK1 := Lib.hid hK1; have HL1 := Lib.hid hL1; obtain ⟨gk, ck, ek, hgk, _, hrk, _, _⟩ := hO1.form (by rw [hK1.1]; decide); rw [hK1.1] at ek; subst ek; have HO1 := Lib.hid hO1; clear hO1 hK1 hL1 hrk hgk)
    | (go_at_call 82; refine (HBB.out w1 HL1.out).mono ?_; rintro e w2 ⟨v2, rfl, hO2, hL2⟩; have HO2 := Lib.hid hO2; have HL2 := Lib.hid hL2; obtain ⟨A1, c1, rfl, _⟩ := hO2.formc (by rw [Is_len, nb_len]); clear hO2 hL2)
    | (go_at_call 106; (with_reducible show Calls _ _ _ w2 _); refine (rperm_any _ (nb (num b) 64) strIP tabIP w2 HO2.out.slV tells_IP (by rw [len_IP]; decide) (by rw [nb_len]; exact IP_in) (by rw [nb_len]; decide)).mono ?_; rintro e w3 ⟨v3, rfl, hO3, hL3⟩; rw [HP1.out] at hO3; have HL3 := Lib.hid (below_more HL2.out hL3 HL2.out.size); obtain ⟨g3, c3, e3, hg3, _, _, hc3, hc3m⟩ := hO3.form (by rw [Is_len, nb_len]; decide); rw [Is_len, nb_len] at e3 hc3; subst e3; have HO3 := Lib.hid hO3; have k1 : ¬ c3 = 32 := (by omega); have k2 : (32 : Int) ≤ (c3 : Int) := (by omega); have k3 : (32 : Int) ≤ 64 := (by decide); clear hO3 hL3))
  have hsC := HO3.out.slV.take (n := 32) (by rw [Is_len, nb_len]; decide)
  have hsD := HO3.out.slV.drop (k := 32) (by rw [Is_len, nb_len]; decide)
  rw [Is_take, (nb_lr0 y ks false).1] at hsC
  rw [Is_drop, (nb_lr0 y ks false).2, Nat.zero_add] at hsD
  have hd32 : 32 ≤ c3 - 32 := by omega
  have hm1 : c3 ≤ maxLen := hc3m
  -- the keys in the world w3
  have HK3 := Lib.hid (HK1.out.under HL3.out)
  have HO13 := Lib.hid (HO1.out.under HL3.out)
  have HM3 := Lib.hid (show Below N w w3 by have := below_more HL1.out HL3.out HL1.out.size; rw [HN.out] at this; exact this)
  have HZ3 := Lib.hid (show N ≤ w3.heap.size by have := HM3.out.size; have := HN.out; omega)
  have HCK := Lib.hid (show ∀ i wq, i < 16 → Below w3.heap.size w3 wq → ∃ gu cu, wq.cell? ⟨gk, i, none⟩ = some (.slice (some ⟨gu, 0, none⟩) 48 cu) ∧ SlV wq (.slice (some ⟨gu, 0, none⟩) 48 cu) (Is (nb (gN ks i) 48)) from fun i wq hi hq => by
    obtain ⟨u, hu, hou⟩ := HK3.out.2 i hi
    rw [HGK.out i hi] at hou
    obtain ⟨gu, cu, eu, _⟩ := hou.form (by rw [Is_len, nb_len]; decide)
    rw [Is_len, nb_len] at eu
    subst eu
    have hc := (HO13.out.under hq).slV.cell i _ hu
    rw [Nat.zero_add] at hc
    exact ⟨gu, cu, hc, (hou.under hq).slV⟩)
  have HSC := Lib.hid hsC
  have HSD := Lib.hid hsD
  clear hsC hsD k1 k2 k3 hg3
  go_loopw [9, 10, 11] (fun lv rv i wr => ∃ (j : Nat) (gl ol cl gr or cr : Nat), j ≤ 16 ∧ i = .int .i64 j ∧ lv = .slice (some ⟨gl, ol, none⟩) 32 cl ∧ rv = .slice (some ⟨gr, or, none⟩) 32 cr ∧ SlV wr (.slice (some ⟨gl, ol, none⟩) 32 cl) (Is (nb (lrTo ks false y j).1 32)) ∧ SlV wr (.slice (some ⟨gr, or, none⟩) 32 cr) (Is (nb (lrTo ks false y j).2 32)) ∧ Below w3.heap.size w3 wr) (fun _ _ i _ => 16 - (intOf i).toNat)
  case atStart => exact ⟨0, _, _, _, _, _, _, by omega, rfl, rfl, rfl, HSC.out, HSD.out, Below.refl _ _⟩
  case round =>
    clear HSC HSD hd32 hm1 hc3m hc3
    obtain ⟨j, gl, ol, cl, gr, or, cr, hj, rfl, rfl, rfl, hC, hD, hB⟩ := hrel
    have HC := Lib.hid hC
    have HD := Lib.hid hD
    have HB := Lib.hid hB
    obtain ⟨llt, rlt⟩ := lrTo_lt ks false y HYL.out j
    by_cases hlt : j < 16
    · have HLT := Lib.hid hlt
      obtain ⟨gu, cu, cu1, hu1⟩ := HCK.out j wr hlt hB
      have HU := Lib.hid hu1
      have HIX := Lib.hid (show gN ks j = gN ks (ixOf false j) from rfl)
      have hti : decide ((j : Int) < 16) = true := by simp; omega
      have HLL := Lib.hid llt
      have HRL := Lib.hid rlt
      have HNX := Lib.hid (show lrTo ks false y (j + 1) = ((lrTo ks false y j).2, (lrTo ks false y j).1 ^^^ dmix (lrTo ks false y j).2 (gN ks j)) by rw [HIX.out]; rfl)
      obtain ⟨l, el⟩ : ∃ l, (lrTo ks false y j).1 = l := ⟨_, rfl⟩
      obtain ⟨r, er⟩ : ∃ r, (lrTo ks false y j).2 = r := ⟨_, rfl⟩
      rw [el] at HC HNX HLL
      rw [er] at HD HNX HRL
      clear hC hD hB el er llt rlt hu1 
      go_wp2_with (go_at_call 107; refine (rmix_any _ _ r (gN ks j) wr HRL.out HD.out HU.out).mono ?_; rintro e w4 ⟨v4, rfl, hO4, hL4⟩; obtain ⟨gf, cf, ef, _, _, _, hcf, _⟩ := hO4.form (by rw [Is_len, nb_len]; decide); rw [Is_len, nb_len] at ef; subst ef; have HO4 := Lib.hid hO4; have HL4 := Lib.hid hL4; clear hO4 hL4)
      obtain ⟨f, ef⟩ : ∃ f, dmix r (gN ks j) = f := ⟨_, rfl⟩
      have HF := Lib.hid ef
      rw [ef] at HO4 HNX
      have HC4 := Lib.hid (HC.out.below HL4.out)
      have HD4 := Lib.hid (HD.out.below HL4.out)
      clear ef cu1 hti
      obtain ⟨wo, ewo⟩ : ∃ wo : World, wo = w4 := ⟨_, rfl⟩
      subst ewo
      go_loopw [14, 15] (fun nv i wq => ∃ q : Nat, q ≤ 32 ∧ i = .int .i64 q ∧ OwnV wq wo.heap.size intt nv (Is ((nb (l ^^^ f) 32).take q)) ∧ Below wo.heap.size wo wq) (fun _ i _ => 32 - (intOf i).toNat)
      case atStart => exact ⟨0, by omega, rfl, ownV_nil _ _ _, Below.refl _ _⟩
      case round =>
        obtain ⟨q, hq, rfl, hO5, hB5⟩ := hrel
        have HO5 := Lib.hid hO5
        have HB5 := Lib.hid hB5
        by_cases hq32 : q < 32
        · have HQ := Lib.hid hq32
          have cc1 := (HC4.out.below hB5).cell q (.int .i64 ((nb l 32).getD q 0)) (Is_get _ q (by rw [nb_len]; exact hq32))
          have cc2 := (HO4.out.under hB5).slV.cell q (.int .i64 ((nb f 32).getD q 0)) (Is_get _ q (by rw [nb_len]; exact hq32))
          rw [nb_at _ _ _ hq32] at cc1 cc2
          rw [Nat.zero_add] at cc2
          have hx := tb_xor2 l f (32 - 1 - q)
          have HTK := Lib.hid (nb_takeone (l ^^^ f) 32 q hq32)
          generalize tb (l ^^^ f) (32 - 1 - q) = x at hx HTK
          generalize tb l (32 - 1 - q) = x1 at hx cc1
          generalize tb f (32 - 1 - q) = x2 at hx cc2
          have HLK := Lib.hid (show (Is ((nb (l ^^^ f) 32).take q)).length = q by rw [Is_len, List.length_take, nb_len]; omega)
          have hwn := HB5.out.size
          have hqi : (q : Int) < 32 := by omega
          have hq100 : q ≤ 32 := hq
          clear hO5 hB5 hq32 hq
          go_wp2
          go_region_law (refine step_append_i hu_isl hi_int (by rfl) _ _ (by rfl) wo.heap.size _ (Is ((nb (l ^^^ f) 32).take q)) q HLK.out (by rfl) (HO5.out.alloc _).drew wr.heap.size x (by rfl) (by simp) (by omega) (by simp; omega) ?_; intro g7 cap7 w7 hO7 hG7 hg7)
          all_goals
            have HB2 : Below wo.heap.size wo w7 := below_own (below_alloc HB5.out HB5.out.size _).drew (by simp; omega) hG7 (fun q hq => (HO5.out.lt q hq).1)
            clear cc1 cc2
            go_wp2
            go_roundw
            case rel => exact ⟨q + 1, HQ.out, by go_num, by rw [HTK.out, Is_app]; exact hO7, HB2⟩
            case measure => have := HQ.out; simp [intOf]; omega
        · obtain rfl : q = 32 := by omega
          have hO5 := HO5.out
          rw [List.take_of_length_le (by rw [nb_len]; exact Nat.le_refl _)] at hO5
          obtain ⟨gx, cx, ex, _, _, _, hcx, _⟩ := hO5.form (by rw [Is_len, nb_len]; decide)
          rw [Is_len, nb_len] at ex
          subst ex
          have HX5 := Lib.hid hO5.slV
          clear hO5 HO5 hB5 hq
          go_wp2
          go_roundw
          case rel => exact ⟨j + 1, _, _, _, _, _, _, HLT.out, by go_num, rfl, rfl, by rw [HNX.out]; exact HD4.out.below HB5.out, by rw [HNX.out]; exact HX5.out, below_more (below_more HB.out HL4.out HB.out.size) HB5.out (by have := HB.out.size; have := HL4.out.size; omega)⟩
          case measure => have := HLT.out; simp [intOf]; omega
    · obtain rfl : j = 16 := by omega
      obtain ⟨l, el⟩ : ∃ l, (lrTo ks false y 16).1 = l := ⟨_, rfl⟩
      obtain ⟨r, er⟩ : ∃ r, (lrTo ks false y 16).2 = r := ⟨_, rfl⟩
      rw [el] at HC llt
      rw [er] at HD
      have HDB2 := HDB.out
      rw [el, er] at HDB2
      have HNB := Lib.hid (nb_both l r llt)
      obtain ⟨z, ez⟩ : ∃ z, r * 4294967296 ||| l = z := ⟨_, rfl⟩
      rw [ez] at HDB2 HNB
      have HDBz := Lib.hid HDB2
      have HZR := Lib.hid (show N ≤ wr.heap.size from Nat.le_trans HZ3.out hB.size)
      clear hC hD hB el er llt rlt HDB2 ez
      go_wp2_with (first
        | (at_builtin; (with_reducible show wpList _ _ _ _ _ (World.alloc wr _)); refine append_v hu_isl hi_int (by decide) (by decide) rfl rfl _ _ rfl wr.heap.size _ [] (by rfl) (ownV_lit0 wr _ intt (Nat.le_refl _)) _ (Is (nb r 32)) (by rfl) (HD.out.alloc _) (Is_one _) (by simp [Is_len, nb_len]) (by simp) ?_; intro vq1 w5 hQ1 hG1; rw [List.nil_append] at hQ1; have HQ1 := Lib.hid hQ1; have HS5 := Lib.hid (show Below wr.heap.size wr w5 from below_new ((Below.refl _ _).alloc (Nat.le_refl _) _) (by simp) hG1 (Nat.le_refl _)); have HC5 := Lib.hid (HC.out.below HS5.out); clear hQ1 hG1)
        | (at_builtin; (with_reducible show wpList _ _ _ _ _ w5); refine append_v hu_isl hi_int (by decide) (by decide) rfl rfl _ _ rfl wr.heap.size _ (Is (nb r 32)) (by rfl) HQ1.out _ (Is (nb l 32)) (by rfl) HC5.out (Is_one _) (by simp [Is_len, nb_len]) HS5.out.size ?_; intro vq2 w6 hQ2 hG2; rw [← Is_app, HNB.out] at hQ2; obtain ⟨gq, cq, eq2, _, _, _, hcq, _⟩ := hQ2.form (by rw [Is_len, nb_len]; decide); rw [Is_len, nb_len] at eq2; subst eq2; have HQ2 := Lib.hid hQ2; have HS6 := Lib.hid (show Below wr.heap.size wr w6 from below_own HS5.out HS5.out.size hG2 (fun q hq => (HQ1.out.lt q hq).1)); clear hQ2 hG2)
        | ((with_reducible show wpList _ _ _ _ _ w6); refine make_i (w := w6) rfl 86 _ _ rfl 64 (.int .i64 64) (.int .i64 64) (by rfl) (by rfl) (Is (ipTo z 0)).toArray intt (fun _ => by kernel_rfl) ?_; intro w7 hB7 hG7 hz7; obtain ⟨gm, egm⟩ : ∃ g, w6.heap.size = g := ⟨_, rfl⟩; have HIB := Lib.hid (show IB w7 gm intt (ipTo z 0) from (by rw [← egm]; exact hB7)); have HS7 := Lib.hid (show Below w6.heap.size w6 w7 from below_none (Below.refl _ _) (Nat.le_refl _) hG7); have HGM := Lib.hid egm; rw [egm]; clear hB7 hG7 hz7 egm))
      go_loopw [18] (fun i wq => ∃ q : Nat, q ≤ 64 ∧ i = .int .i64 q ∧ IB wq gm intt (ipTo z q) ∧ Below w6.heap.size w6 wq) (fun i _ => 64 - (intOf i).toNat)
      case atStart => exact ⟨0, by omega, rfl, HIB.out, HS7.out⟩
      case round =>
        clear HIB HS7
        obtain ⟨q, hq, rfl, hI, hB8⟩ := hrel
        have HI := Lib.hid hI
        have HB8 := Lib.hid hB8
        by_cases hq64 : q < 64
        · have HQ := Lib.hid hq64
          obtain ⟨hr1, hr2⟩ := ip_range q hq64
          obtain ⟨b9, eb9⟩ : ∃ b9, tabIP.getD q 0 = b9 + 1 := ⟨tabIP.getD q 0 - 1, by omega⟩
          have HPL := Lib.hid (fun wq => place_any strIP tabIP q wq tells_IP (by rw [len_IP]; exact hq64) (by rw [len_IP]; decide))
          rw [eb9, show (((b9 + 1 : Nat)) : Int) = (b9 : Int) + 1 from by omega] at HPL
          have hst : ipTo z (q + 1) = (ipTo z q).set b9 (tb z (63 - q)) := by rw [ipTo, eb9, Nat.add_sub_cancel]
          have HST := Lib.hid hst
          have cc := (HQ2.out.under hB8).slV.cell q (.int .i64 ((nb z 64).getD q 0)) (Is_get _ q (by rw [nb_len]; exact hq64))
          rw [nb_at _ _ _ hq64, Nat.zero_add, show 64 - 1 - q = 63 - q from rfl] at cc
          have hb64 : b9 < 64 := by omega
          have hb64i : (b9 : Int) < 64 := by omega
          have hqi : (q : Int) < 64 := by omega
          have cm := hI.cell b9 (by rw [ipTo_len]; exact hb64)
          have fm := hI.free b9
          have s1 : IntKind.i64.wrap ((b9 : Int) + 1 - 1) = (b9 : Int) := by rw [IntWalk.i64_in _ (by omega)]; omega
          have s2 : IntKind.i64.wrap (b9 : Int) = (b9 : Int) := IntWalk.i64_in _ (by omega)
          generalize tb z (63 - q) = x at cc HST
          generalize (ipTo z q).getD b9 0 = x0 at cm
          clear hst hI hB8 hr1 hr2 eb9 hq64 hq
          go_wp2
          refine wp_quiet_tail (fun w9 => ∃ n, w9 = wr.drewN n) 9 (by kernel_rfl) (by kernel_rfl) ⟨1, rfl⟩ ?_
          simp only [List.take_succ_cons, List.take_zero, List.drop_succ_cons, List.drop_zero]
          repeat (quiet_step ((go_at_call 108; exact Calls.quiet_of (HPL.out _))))
          refine wpQuiet_nil ?_
          rintro _ ⟨nq, rfl⟩
          go_wp2
          go_roundw
          case rel =>
            refine ⟨q + 1, HQ.out, by go_num, ?_, ?_⟩
            · rw [HST.out]
              exact IB.set (w := wr.drewN nq) HI.out b9 x
            · have hG : (wr.drewN nq).grownBy ((wr.drewN nq).setCell ⟨gm, b9, none⟩ (.int .i64 x)) (some gm) := grown_set (grown_refl _ _) _ _
              exact below_new (below_more HB8.out (Drawn.below0 ⟨nq, rfl⟩) HB8.out.size) HB8.out.size hG (Nat.le_of_eq HGM.out)
          case measure => have := HQ.out; simp [intOf]; omega
        · obtain rfl : q = 64 := by omega
          have hI2 := hI
          rw [ipTo_all] at hI2
          have HI2 := Lib.hid (hI2.slV (n := 64) (by rw [nb_len]) (by decide))
          clear hI hI2 HI hq
          go_wp2_with (go_at_call 83; refine (rBytes_any _ (unperm z tabIP) wr HI2.out).mono ?_; rintro e w9 ⟨v9, rfl, hO9, hL9⟩)
          go_ret
          have z1 := HZR.out
          have z2 := HS6.out.size
          have z3 := HB8.out.size
          have z4 := HZ3.out
          exact ⟨_, rfl, by rw [HN.out, HDBz.out]; exact hO9.lower (by omega), by rw [HN.out]; exact below_more (below_more (below_more (below_more HM3.out HB.out z4) HS6.out z1) HB8.out (by omega)) hL9 (by omega)⟩
set_option maxHeartbeats 12800000 in
set_option maxRecDepth 100000 in
theorem rBlock_true (vk vb : Value) (key b : List UInt8) (w : World) (hk : SlB w vk key) (hkl : key.length = 8) (hb : SlB w vb b) (hbl : b.length = 8) :
    Calls Tryz.prog 90 #[vk, vb, .bool true] w fun e w' => ∃ v, e = .returned v ∧ Own w' w.heap.size v (dblock key b true) ∧ Below w.heap.size w w' := by
  obtain ⟨N, hN⟩ : ∃ N, w.heap.size = N := ⟨_, rfl⟩
  have HN := Lib.hid hN
  have HKY := Lib.hid (Keys_any vk key w hk hkl)
  have HBB := Lib.hid (fun (w1 : World) (hL : Below w.heap.size w w1) => Bits_any vb b w1 (hb.below hL) (by omega))
  rw [pbits_num b hbl] at HBB
  obtain ⟨y, hy⟩ : ∃ y, perm (num b) 64 tabIP = y := ⟨_, rfl⟩
  have HYL := Lib.hid (show y < 2 ^ 64 by rw [← hy]; exact perm_IP_lt _)
  have HP1 := Lib.hid (show lperm (nb (num b) 64) tabIP = nb y 64 by rw [lperm_nb _ 64 tabIP IP_in, len_IP, hy])
  obtain ⟨ks, hks⟩ : ∃ ks, dkeys key = ks := ⟨_, rfl⟩
  have HGK := Lib.hid (show ∀ r, r < 16 → dkeyOf (perm (num key) 64 tabPC1) r = gN ks r from fun r hr => by rw [← hks]; exact (gN_dkeys key r hr).symm)
  have HDB := Lib.hid (show dblock key b true = pbytes (unperm ((lrTo ks true y 16).2 * 4294967296 ||| (lrTo ks true y 16).1) tabIP) by unfold dblock; rw [hy, hks])
  obtain ⟨A, c, rfl, _⟩ := hk
  obtain ⟨A9, c9, rfl, _⟩ := hb
  clear hN hy hks hkl hbl
  go_enter Tryz.func90, Tryz.ntmps90
  go_wp2_with (first
    | (go_at_call 105; refine HKY.out.mono ?_; rintro e w1 ⟨v1, vs, rfl, hO1, hK1, hL1⟩; have HK1 := Lib.hid hK1; have HL1 := Lib.hid hL1; obtain ⟨gk, ck, ek, hgk, _, hrk, _, _⟩ := hO1.form (by rw [hK1.1]; decide); rw [hK1.1] at ek; subst ek; have HO1 := Lib.hid hO1; clear hO1 hK1 hL1 hrk hgk)
    | (go_at_call 82; refine (HBB.out w1 HL1.out).mono ?_; rintro e w2 ⟨v2, rfl, hO2, hL2⟩; have HO2 := Lib.hid hO2; have HL2 := Lib.hid hL2; obtain ⟨A1, c1, rfl, _⟩ := hO2.formc (by rw [Is_len, nb_len]); clear hO2 hL2)
    | (go_at_call 106; (with_reducible show Calls _ _ _ w2 _); refine (rperm_any _ (nb (num b) 64) strIP tabIP w2 HO2.out.slV tells_IP (by rw [len_IP]; decide) (by rw [nb_len]; exact IP_in) (by rw [nb_len]; decide)).mono ?_; rintro e w3 ⟨v3, rfl, hO3, hL3⟩; rw [HP1.out] at hO3; have HL3 := Lib.hid (below_more HL2.out hL3 HL2.out.size); obtain ⟨g3, c3, e3, hg3, _, _, hc3, hc3m⟩ := hO3.form (by rw [Is_len, nb_len]; decide); rw [Is_len, nb_len] at e3 hc3; subst e3; have HO3 := Lib.hid hO3; have k1 : ¬ c3 = 32 := (by omega); have k2 : (32 : Int) ≤ (c3 : Int) := (by omega); have k3 : (32 : Int) ≤ 64 := (by decide); clear hO3 hL3))
  have hsC := HO3.out.slV.take (n := 32) (by rw [Is_len, nb_len]; decide)
  have hsD := HO3.out.slV.drop (k := 32) (by rw [Is_len, nb_len]; decide)
  rw [Is_take, (nb_lr0 y ks true).1] at hsC
  rw [Is_drop, (nb_lr0 y ks true).2, Nat.zero_add] at hsD
  have hd32 : 32 ≤ c3 - 32 := by omega
  have hm1 : c3 ≤ maxLen := hc3m
  -- the keys in the world w3
  have HK3 := Lib.hid (HK1.out.under HL3.out)
  have HO13 := Lib.hid (HO1.out.under HL3.out)
  have HM3 := Lib.hid (show Below N w w3 by have := below_more HL1.out HL3.out HL1.out.size; rw [HN.out] at this; exact this)
  have HZ3 := Lib.hid (show N ≤ w3.heap.size by have := HM3.out.size; have := HN.out; omega)
  have HCK := Lib.hid (show ∀ i wq, i < 16 → Below w3.heap.size w3 wq → ∃ gu cu, wq.cell? ⟨gk, i, none⟩ = some (.slice (some ⟨gu, 0, none⟩) 48 cu) ∧ SlV wq (.slice (some ⟨gu, 0, none⟩) 48 cu) (Is (nb (gN ks i) 48)) from fun i wq hi hq => by
    obtain ⟨u, hu, hou⟩ := HK3.out.2 i hi
    rw [HGK.out i hi] at hou
    obtain ⟨gu, cu, eu, _⟩ := hou.form (by rw [Is_len, nb_len]; decide)
    rw [Is_len, nb_len] at eu
    subst eu
    have hc := (HO13.out.under hq).slV.cell i _ hu
    rw [Nat.zero_add] at hc
    exact ⟨gu, cu, hc, (hou.under hq).slV⟩)
  have HSC := Lib.hid hsC
  have HSD := Lib.hid hsD
  clear hsC hsD k1 k2 k3 hg3
  go_loopw [9, 10, 11] (fun lv rv i wr => ∃ (j : Nat) (gl ol cl gr or cr : Nat), j ≤ 16 ∧ i = .int .i64 j ∧ lv = .slice (some ⟨gl, ol, none⟩) 32 cl ∧ rv = .slice (some ⟨gr, or, none⟩) 32 cr ∧ SlV wr (.slice (some ⟨gl, ol, none⟩) 32 cl) (Is (nb (lrTo ks true y j).1 32)) ∧ SlV wr (.slice (some ⟨gr, or, none⟩) 32 cr) (Is (nb (lrTo ks true y j).2 32)) ∧ Below w3.heap.size w3 wr) (fun _ _ i _ => 16 - (intOf i).toNat)
  case atStart => exact ⟨0, _, _, _, _, _, _, by omega, rfl, rfl, rfl, HSC.out, HSD.out, Below.refl _ _⟩
  case round =>
    clear HSC HSD hd32 hm1 hc3m hc3
    obtain ⟨j, gl, ol, cl, gr, or, cr, hj, rfl, rfl, rfl, hC, hD, hB⟩ := hrel
    have HC := Lib.hid hC
    have HD := Lib.hid hD
    have HB := Lib.hid hB
    obtain ⟨llt, rlt⟩ := lrTo_lt ks true y HYL.out j
    by_cases hlt : j < 16
    · have HLT := Lib.hid hlt
      obtain ⟨gu, cu, cu1, hu1⟩ := HCK.out j wr hlt hB
      obtain ⟨gu2, cu2, cu3, hu2⟩ := HCK.out (15 - j) wr (by omega) hB
      have q1 : (15 : Int) - (j : Int) = ((15 - j : Nat) : Int) := by omega
      obtain ⟨J, eJ⟩ : ∃ J, 15 - j = J := ⟨_, rfl⟩
      rw [eJ] at q1 cu3 hu2
      have q2 : J < 16 := by omega
      have HU := Lib.hid hu2
      have HIX := Lib.hid (show gN ks J = gN ks (ixOf true j) by rw [← eJ]; rfl)
      have hti : decide ((j : Int) < 16) = true := by simp; omega
      have HLL := Lib.hid llt
      have HRL := Lib.hid rlt
      have HNX := Lib.hid (show lrTo ks true y (j + 1) = ((lrTo ks true y j).2, (lrTo ks true y j).1 ^^^ dmix (lrTo ks true y j).2 (gN ks J)) by rw [HIX.out]; rfl)
      obtain ⟨l, el⟩ : ∃ l, (lrTo ks true y j).1 = l := ⟨_, rfl⟩
      obtain ⟨r, er⟩ : ∃ r, (lrTo ks true y j).2 = r := ⟨_, rfl⟩
      rw [el] at HC HNX HLL
      rw [er] at HD HNX HRL
      clear hC hD hB el er llt rlt hu1 hu2 eJ
      go_wp2_with (go_at_call 107; refine (rmix_any _ _ r (gN ks J) wr HRL.out HD.out HU.out).mono ?_; rintro e w4 ⟨v4, rfl, hO4, hL4⟩; obtain ⟨gf, cf, ef, _, _, _, hcf, _⟩ := hO4.form (by rw [Is_len, nb_len]; decide); rw [Is_len, nb_len] at ef; subst ef; have HO4 := Lib.hid hO4; have HL4 := Lib.hid hL4; clear hO4 hL4)
      obtain ⟨f, ef⟩ : ∃ f, dmix r (gN ks J) = f := ⟨_, rfl⟩
      have HF := Lib.hid ef
      rw [ef] at HO4 HNX
      have HC4 := Lib.hid (HC.out.below HL4.out)
      have HD4 := Lib.hid (HD.out.below HL4.out)
      clear ef cu1 hti
      obtain ⟨wo, ewo⟩ : ∃ wo : World, wo = w4 := ⟨_, rfl⟩
      subst ewo
      go_loopw [14, 15] (fun nv i wq => ∃ q : Nat, q ≤ 32 ∧ i = .int .i64 q ∧ OwnV wq wo.heap.size intt nv (Is ((nb (l ^^^ f) 32).take q)) ∧ Below wo.heap.size wo wq) (fun _ i _ => 32 - (intOf i).toNat)
      case atStart => exact ⟨0, by omega, rfl, ownV_nil _ _ _, Below.refl _ _⟩
      case round =>
        obtain ⟨q, hq, rfl, hO5, hB5⟩ := hrel
        have HO5 := Lib.hid hO5
        have HB5 := Lib.hid hB5
        by_cases hq32 : q < 32
        · have HQ := Lib.hid hq32
          have cc1 := (HC4.out.below hB5).cell q (.int .i64 ((nb l 32).getD q 0)) (Is_get _ q (by rw [nb_len]; exact hq32))
          have cc2 := (HO4.out.under hB5).slV.cell q (.int .i64 ((nb f 32).getD q 0)) (Is_get _ q (by rw [nb_len]; exact hq32))
          rw [nb_at _ _ _ hq32] at cc1 cc2
          rw [Nat.zero_add] at cc2
          have hx := tb_xor2 l f (32 - 1 - q)
          have HTK := Lib.hid (nb_takeone (l ^^^ f) 32 q hq32)
          generalize tb (l ^^^ f) (32 - 1 - q) = x at hx HTK
          generalize tb l (32 - 1 - q) = x1 at hx cc1
          generalize tb f (32 - 1 - q) = x2 at hx cc2
          have HLK := Lib.hid (show (Is ((nb (l ^^^ f) 32).take q)).length = q by rw [Is_len, List.length_take, nb_len]; omega)
          have hwn := HB5.out.size
          have hqi : (q : Int) < 32 := by omega
          have hq100 : q ≤ 32 := hq
          clear hO5 hB5 hq32 hq
          go_wp2
          go_region_law (refine step_append_i hu_isl hi_int (by rfl) _ _ (by rfl) wo.heap.size _ (Is ((nb (l ^^^ f) 32).take q)) q HLK.out (by rfl) (HO5.out.alloc _).drew wr.heap.size x (by rfl) (by simp) (by omega) (by simp; omega) ?_; intro g7 cap7 w7 hO7 hG7 hg7)
          all_goals
            have HB2 : Below wo.heap.size wo w7 := below_own (below_alloc HB5.out HB5.out.size _).drew (by simp; omega) hG7 (fun q hq => (HO5.out.lt q hq).1)
            clear cc1 cc2
            go_wp2
            go_roundw
            case rel => exact ⟨q + 1, HQ.out, by go_num, by rw [HTK.out, Is_app]; exact hO7, HB2⟩
            case measure => have := HQ.out; simp [intOf]; omega
        · obtain rfl : q = 32 := by omega
          have hO5 := HO5.out
          rw [List.take_of_length_le (by rw [nb_len]; exact Nat.le_refl _)] at hO5
          obtain ⟨gx, cx, ex, _, _, _, hcx, _⟩ := hO5.form (by rw [Is_len, nb_len]; decide)
          rw [Is_len, nb_len] at ex
          subst ex
          have HX5 := Lib.hid hO5.slV
          clear hO5 HO5 hB5 hq
          go_wp2
          go_roundw
          case rel => exact ⟨j + 1, _, _, _, _, _, _, HLT.out, by go_num, rfl, rfl, by rw [HNX.out]; exact HD4.out.below HB5.out, by rw [HNX.out]; exact HX5.out, below_more (below_more HB.out HL4.out HB.out.size) HB5.out (by have := HB.out.size; have := HL4.out.size; omega)⟩
          case measure => have := HLT.out; simp [intOf]; omega
    · obtain rfl : j = 16 := by omega
      obtain ⟨l, el⟩ : ∃ l, (lrTo ks true y 16).1 = l := ⟨_, rfl⟩
      obtain ⟨r, er⟩ : ∃ r, (lrTo ks true y 16).2 = r := ⟨_, rfl⟩
      rw [el] at HC llt
      rw [er] at HD
      have HDB2 := HDB.out
      rw [el, er] at HDB2
      have HNB := Lib.hid (nb_both l r llt)
      obtain ⟨z, ez⟩ : ∃ z, r * 4294967296 ||| l = z := ⟨_, rfl⟩
      rw [ez] at HDB2 HNB
      have HDBz := Lib.hid HDB2
      have HZR := Lib.hid (show N ≤ wr.heap.size from Nat.le_trans HZ3.out hB.size)
      clear hC hD hB el er llt rlt HDB2 ez
      go_wp2_with (first
        | (at_builtin; (with_reducible show wpList _ _ _ _ _ (World.alloc wr _)); refine append_v hu_isl hi_int (by decide) (by decide) rfl rfl _ _ rfl wr.heap.size _ [] (by rfl) (ownV_lit0 wr _ intt (Nat.le_refl _)) _ (Is (nb r 32)) (by rfl) (HD.out.alloc _) (Is_one _) (by simp [Is_len, nb_len]) (by simp) ?_; intro vq1 w5 hQ1 hG1; rw [List.nil_append] at hQ1; have HQ1 := Lib.hid hQ1; have HS5 := Lib.hid (show Below wr.heap.size wr w5 from below_new ((Below.refl _ _).alloc (Nat.le_refl _) _) (by simp) hG1 (Nat.le_refl _)); have HC5 := Lib.hid (HC.out.below HS5.out); clear hQ1 hG1)
        | (at_builtin; (with_reducible show wpList _ _ _ _ _ w5); refine append_v hu_isl hi_int (by decide) (by decide) rfl rfl _ _ rfl wr.heap.size _ (Is (nb r 32)) (by rfl) HQ1.out _ (Is (nb l 32)) (by rfl) HC5.out (Is_one _) (by simp [Is_len, nb_len]) HS5.out.size ?_; intro vq2 w6 hQ2 hG2; rw [← Is_app, HNB.out] at hQ2; obtain ⟨gq, cq, eq2, _, _, _, hcq, _⟩ := hQ2.form (by rw [Is_len, nb_len]; decide); rw [Is_len, nb_len] at eq2; subst eq2; have HQ2 := Lib.hid hQ2; have HS6 := Lib.hid (show Below wr.heap.size wr w6 from below_own HS5.out HS5.out.size hG2 (fun q hq => (HQ1.out.lt q hq).1)); clear hQ2 hG2)
        | ((with_reducible show wpList _ _ _ _ _ w6); refine make_i (w := w6) rfl 86 _ _ rfl 64 (.int .i64 64) (.int .i64 64) (by rfl) (by rfl) (Is (ipTo z 0)).toArray intt (fun _ => by kernel_rfl) ?_; intro w7 hB7 hG7 hz7; obtain ⟨gm, egm⟩ : ∃ g, w6.heap.size = g := ⟨_, rfl⟩; have HIB := Lib.hid (show IB w7 gm intt (ipTo z 0) from (by rw [← egm]; exact hB7)); have HS7 := Lib.hid (show Below w6.heap.size w6 w7 from below_none (Below.refl _ _) (Nat.le_refl _) hG7); have HGM := Lib.hid egm; rw [egm]; clear hB7 hG7 hz7 egm))
      go_loopw [18] (fun i wq => ∃ q : Nat, q ≤ 64 ∧ i = .int .i64 q ∧ IB wq gm intt (ipTo z q) ∧ Below w6.heap.size w6 wq) (fun i _ => 64 - (intOf i).toNat)
      case atStart => exact ⟨0, by omega, rfl, HIB.out, HS7.out⟩
      case round =>
        clear HIB HS7
        obtain ⟨q, hq, rfl, hI, hB8⟩ := hrel
        have HI := Lib.hid hI
        have HB8 := Lib.hid hB8
        by_cases hq64 : q < 64
        · have HQ := Lib.hid hq64
          obtain ⟨hr1, hr2⟩ := ip_range q hq64
          obtain ⟨b9, eb9⟩ : ∃ b9, tabIP.getD q 0 = b9 + 1 := ⟨tabIP.getD q 0 - 1, by omega⟩
          have HPL := Lib.hid (fun wq => place_any strIP tabIP q wq tells_IP (by rw [len_IP]; exact hq64) (by rw [len_IP]; decide))
          rw [eb9, show (((b9 + 1 : Nat)) : Int) = (b9 : Int) + 1 from by omega] at HPL
          have hst : ipTo z (q + 1) = (ipTo z q).set b9 (tb z (63 - q)) := by rw [ipTo, eb9, Nat.add_sub_cancel]
          have HST := Lib.hid hst
          have cc := (HQ2.out.under hB8).slV.cell q (.int .i64 ((nb z 64).getD q 0)) (Is_get _ q (by rw [nb_len]; exact hq64))
          rw [nb_at _ _ _ hq64, Nat.zero_add, show 64 - 1 - q = 63 - q from rfl] at cc
          have hb64 : b9 < 64 := by omega
          have hb64i : (b9 : Int) < 64 := by omega
          have hqi : (q : Int) < 64 := by omega
          have cm := hI.cell b9 (by rw [ipTo_len]; exact hb64)
          have fm := hI.free b9
          have s1 : IntKind.i64.wrap ((b9 : Int) + 1 - 1) = (b9 : Int) := by rw [IntWalk.i64_in _ (by omega)]; omega
          have s2 : IntKind.i64.wrap (b9 : Int) = (b9 : Int) := IntWalk.i64_in _ (by omega)
          generalize tb z (63 - q) = x at cc HST
          generalize (ipTo z q).getD b9 0 = x0 at cm
          clear hst hI hB8 hr1 hr2 eb9 hq64 hq
          go_wp2
          refine wp_quiet_tail (fun w9 => ∃ n, w9 = wr.drewN n) 9 (by kernel_rfl) (by kernel_rfl) ⟨1, rfl⟩ ?_
          simp only [List.take_succ_cons, List.take_zero, List.drop_succ_cons, List.drop_zero]
          repeat (quiet_step ((go_at_call 108; exact Calls.quiet_of (HPL.out _))))
          refine wpQuiet_nil ?_
          rintro _ ⟨nq, rfl⟩
          go_wp2
          go_roundw
          case rel =>
            refine ⟨q + 1, HQ.out, by go_num, ?_, ?_⟩
            · rw [HST.out]
              exact IB.set (w := wr.drewN nq) HI.out b9 x
            · have hG : (wr.drewN nq).grownBy ((wr.drewN nq).setCell ⟨gm, b9, none⟩ (.int .i64 x)) (some gm) := grown_set (grown_refl _ _) _ _
              exact below_new (below_more HB8.out (Drawn.below0 ⟨nq, rfl⟩) HB8.out.size) HB8.out.size hG (Nat.le_of_eq HGM.out)
          case measure => have := HQ.out; simp [intOf]; omega
        · obtain rfl : q = 64 := by omega
          have hI2 := hI
          rw [ipTo_all] at hI2
          have HI2 := Lib.hid (hI2.slV (n := 64) (by rw [nb_len]) (by decide))
          clear hI hI2 HI hq
          go_wp2_with (go_at_call 83; refine (rBytes_any _ (unperm z tabIP) wr HI2.out).mono ?_; rintro e w9 ⟨v9, rfl, hO9, hL9⟩)
          go_ret
          have z1 := HZR.out
          have z2 := HS6.out.size
          have z3 := HB8.out.size
          have z4 := HZ3.out
          exact ⟨_, rfl, by rw [HN.out, HDBz.out]; exact hO9.lower (by omega), by rw [HN.out]; exact below_more (below_more (below_more (below_more HM3.out HB.out z4) HS6.out z1) HB8.out (by omega)) hL9 (by omega)⟩
end Go.Proofs.YtbbfjlnkhenbiaaGreatDoor
set_option linter.unusedVariables false
set_option linter.unusedSimpArgs false
namespace Lk
theorem part8_self (k : List UInt8) (h : k.length = 8) : part8 (pparts k) 0 = k := by
  unfold pparts part8
  simp [h]
theorem ptriple8 (k b : List UInt8) (back : Bool) (h : k.length = 8) : ptriple k b back = dblock k b back := by
  unfold ptriple; rw [if_pos h, part8_self k h]
end Lk
namespace Go.Proofs.YtbbfjlnkhenbiaaGreatDoor
open Go Go.RowKit Lk
theorem rBlock_any (back : Bool) (vk vb : Value) (key b : List UInt8) (w : World) (hk : SlB w vk key) (hkl : key.length = 8) (hb : SlB w vb b) (hbl : b.length = 8) :
    Calls Tryz.prog 90 #[vk, vb, .bool back] w fun e w' => ∃ v, e = .returned v ∧ Own w' w.heap.size v (dblock key b back) ∧ Below w.heap.size w w' := by
  cases back
  · exact rBlock_false vk vb key b w hk hkl hb hbl
  · exact rBlock_true vk vb key b w hk hkl hb hbl
section
variable {ops : Array Oper} {o : Oper} {a : Act} {w : World}
theorem yields_toB {S : World → Prop} (hw : Region.wanted o (yielded ops a.tmps) = true) (x hi : Operand) (ho : o.op = .slice slt x none (some hi) none) (g k L c n : Nat) (hx : a.eval x = .slice (some ⟨g, k, none⟩) L c) (hhi : a.eval hi = .int .i64 n) (h1 : n ≤ c) : YieldsIf Tryz.prog ops S o (.slice (some ⟨g, k, none⟩) n c) a := .inl ⟨hw, fun w hS => by
    unfold execOp
    simp only [ho, hx, hhi, Option.map_some, Option.map_none]
    rw [Sem.run_bind, run_sliceAt_slice w slt _ _ _ _ huel, run_slice_h w slt _ _ _ huel .i64 (n : Int) (by omega) (by omega), run_u8len]
    simp [Result.andThen_ok, Sem.run_pure, sliced]
    intro _; unfold Addr.add; split <;> simp_all⟩
end
end Go.Proofs.YtbbfjlnkhenbiaaGreatDoor
