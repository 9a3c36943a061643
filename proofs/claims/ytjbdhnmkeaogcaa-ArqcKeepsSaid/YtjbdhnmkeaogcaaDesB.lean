/- DES: eight bytes as a number and back; halves turned. -/
import Derived.Test.YtjbdhnmkeaogcaaDesA
set_option linter.unusedVariables false
set_option linter.unusedSimpArgs false
namespace Lk
open Go
/-- the number of the first k bytes -/
def numTo (b : List UInt8) : Nat → Nat
  | 0 => 0
  | k + 1 => 256 * numTo b k + (g8 b k).toNat
def num (b : List UInt8) : Nat := numTo b 8
theorem numTo_lt (b : List UInt8) (k : Nat) : numTo b k < 256 ^ k := by
  induction k with
  | zero => exact (by decide : (0 : Nat) < 256 ^ 0)
  | succ k ih =>
    have := (g8 b k).toNat_lt
    simp only [numTo]
    rw [Nat.pow_succ]
    omega
theorem num_lt (b : List UInt8) : num b < 2 ^ 64 := numTo_lt b 8
theorem num_step (o k : Nat) (c : UInt8) (ho : o < 256 ^ k) (hk : k < 8) :
    Go.bits .or .u64 (Go.IntKind.u64.wrap (nv o * (256 : Int))) (Go.IntKind.u64.wrap (bv c)) = nv (256 * o + c.toNat) := by
  unfold nv bv
  have h1 : 256 ^ k ≤ 256 ^ 7 := Nat.pow_le_pow_right (by decide) (by omega)
  have h2 := c.toNat_lt
  have e1 : ((o : Int) * (256 : Int)) = ((256 * o : Nat) : Int) := by omega
  have e2 : 256 * o ||| c.toNat = 256 * o + c.toNat := by
    have := Nat.two_pow_add_eq_or_of_lt (i := 8) (by simpa using h2) o
    simpa using this.symm
  rw [e1, wrap_u64 _ (by omega), wrap_u64 _ (by omega), bits_or_u64 _ _ (by omega) (by omega), e2]
/-- a number's eight bytes -/
def pbytes (x : Nat) : List UInt8 := (List.range 8).map fun i => UInt8.ofNat (x / 2 ^ (56 - 8 * i))
theorem pbytes_len (x : Nat) : (pbytes x).length = 8 := by simp [pbytes]
def bytesTo (x k : Nat) : List UInt8 := (List.range 8).map fun i => if i < k then UInt8.ofNat (x / 2 ^ (56 - 8 * i)) else 0
theorem bytesTo_len (x k : Nat) : (bytesTo x k).length = 8 := by simp [bytesTo]
theorem bytesTo_eight (x : Nat) : bytesTo x 8 = pbytes x := by
  unfold bytesTo pbytes
  apply List.map_congr_left
  intro i hi
  rw [if_pos (by simpa using hi)]
theorem bytesTo_set (x k : Nat) (hk : k < 8) : (bytesTo x k).set k (UInt8.ofNat (x / 2 ^ (56 - 8 * k))) = bytesTo x (k + 1) := by
  apply List.ext_getElem
  · simp [bytesTo]
  · intro i h1 h2
    rw [List.getElem_set]
    simp only [bytesTo, List.getElem_map, List.getElem_range]
    by_cases h : k = i
    · subst h; rw [if_pos rfl, if_pos (by omega)]
    · rw [if_neg h]
      by_cases h3 : i < k
      · rw [if_pos h3, if_pos (by omega)]
      · rw [if_neg h3, if_neg (by omega)]
theorem byte_of (x n : Nat) (hx : x < 2 ^ 64) : Go.IntKind.u8.wrap (nv x / (2 : Int) ^ n) = bv (UInt8.ofNat (x / 2 ^ n)) := by
  unfold nv bv
  rw [Go.IntKind.wrap_u8, UInt8.toNat_ofNat']
  have e3 : ((x : Int) / (2 : Int) ^ n) = ((x / 2 ^ n : Nat) : Int) := by simp
  rw [e3]
  omega
/-- 28 bits turned to the left -/
def rot28 (x n : Nat) : Nat := ((x * 2 ^ n) ||| (x / 2 ^ (28 - n))) &&& 268435455
theorem rot28_lt (x n : Nat) : rot28 x n < 2 ^ 28 := Nat.and_lt_two_pow _ (by decide)
theorem turn_form (x n d : Nat) (hx : x < 2 ^ 28) (hn : n ≤ 2) (hd : 2 ^ (28 - n) = d) :
    Go.bits .and .u64 (Go.bits .or .u64 (Go.IntKind.u64.wrap (nv x * ((2 ^ n : Nat) : Int))) (nv x / (d : Int))) 268435455 = nv (rot28 x n) := by
  unfold nv rot28
  subst hd
  have h2 : 2 ^ n ≤ 2 ^ 2 := Nat.pow_le_pow_right (by decide) hn
  have h3 : x * 2 ^ n ≤ x * 4 := Nat.mul_le_mul_left _ (by omega)
  have h4 : x / 2 ^ (28 - n) ≤ x := Nat.div_le_self _ _
  have e1 : ((x : Int) * ((2 ^ n : Nat) : Int)) = ((x * 2 ^ n : Nat) : Int) := by simp
  have e2 : ((x : Int) / ((2 ^ (28 - n) : Nat) : Int)) = ((x / 2 ^ (28 - n) : Nat) : Int) := by simp
  have e3 : (268435455 : Int) = ((268435455 : Nat) : Int) := rfl
  have h5 : (x * 2 ^ n ||| x / 2 ^ (28 - n)) < 2 ^ 64 := Nat.or_lt_two_pow (by omega) (by omega)
  rw [e1, e2, e3, wrap_u64 _ (by omega), bits_or_u64 _ _ (by omega) (by omega), bits_and_u64 _ _ h5 (by decide)]
theorem run_index_bs {P : Program} (ty n e : TypeId) (l : List UInt8) (hu : P.underlying ty = some (.array n e)) (hsz : ∀ w : World, (Go.sizeOf e : Sem Nat).run P w = .ok 1 w) (ha : ∀ w : World, (isAgg e).run P w = .ok false w) (hl : l.length = n) (k : Nat) (hk : k < n) (w : World) :
    (Instr.index ty (.agg (Bs l)) (.int .i64 k)).run P w = .ok (.int .u8 (bv (g8 l k))) w := by
  have hg := Bs_get l k (by omega)
  simp only [Instr.index, asIntOf]
  simp [run_underlying hu, hsz, part, ha, hg, hk]
end Lk
namespace Go.Proofs.Ytjbdhnmkeaogcaa
open Go.RowKit Lk
theorem u8_size : ∀ w : World, (Go.sizeOf 5 : Sem Nat).run Try.prog w = .ok 1 w := fun _ => by kernel_rfl
theorem u8_agg : ∀ w : World, (isAgg 5).run Try.prog w = .ok false w := fun _ => by kernel_rfl
set_option maxHeartbeats 800000 in
set_option maxRecDepth 100000 in
theorem number_any (b : List UInt8) (hb : b.length = 8) (w : World) : Calls Try.prog 52 #[.agg (Bs b)] w fun e w' => e = .returned (.int .u64 (nv (num b))) ∧ Below w.heap.size w w' := by
  have HIx := Lib.hid (run_index_bs (P := Try.prog) 23 8 5 b (by kernel_rfl) u8_size u8_agg hb)
  have HB := Lib.hid hb
  clear hb
  go_enter Try.func52, Try.ntmps52
  go_wp2_with (first
    | (refine box_blk rfl 23 _ rfl b rfl ?_; intro w0 hB0 hG0 hs0)
    | (refine load_blk rfl 23 _ rfl w.heap.size 23 8 5 b rfl hB0 HB.out (by kernel_rfl) (by kernel_rfl) ?_))
  have HBl := Lib.hid (below_none (Below.refl w.heap.size w) (Nat.le_refl _) hG0)
  clear hB0 hG0 hs0
  go_loop [3, 7] (fun o i => ∃ k : Nat, k ≤ 8 ∧ i = .int .i64 k ∧ o = .int .u64 (nv (numTo b k))) (fun _ i => 8 - (intOf i).toNat)
  case atStart => exact ⟨0, by omega, rfl, rfl⟩
  case round =>
    obtain ⟨k, hk, rfl, rfl⟩ := hrel
    by_cases hlt : k < 8
    · have hix := HIx.out k hlt
      obtain ⟨o, ho⟩ : ∃ o, numTo b k = o := ⟨_, rfl⟩
      have HO := Lib.hid ho
      rw [ho]
      clear ho
      go_wp2
      go_round
      case rel =>
        refine ⟨k + 1, by omega, by go_num, ?_⟩
        simp only [numTo]
        rw [HO.out]
        have hob := numTo_lt b k
        rw [HO.out] at hob
        exact congrArg (Value.int .u64) (num_step o k (g8 b k) hob hlt)
      case measure => simp [intOf]; omega
    · have HE := Lib.hid (show k = 8 by omega)
      go_wp2
      go_ret
      refine ⟨?_, HBl.out⟩
      have : numTo b k = num b := by rw [HE.out]; rfl
      rw [← this]; rfl
set_option maxHeartbeats 800000 in
set_option maxRecDepth 100000 in
theorem turn28_any (x n : Nat) (hx : x < 2 ^ 28) (hn : n = 1 ∨ n = 2) (w : World) : Calls Try.prog 72 #[.int .u64 (nv x), .int .i64 n] w fun e w' => e = .returned (.int .u64 (nv (rot28 x n))) ∧ Drawn w w' := by
  rcases hn with rfl | rfl
  all_goals
    go_enter Try.func72, Try.ntmps72
    go_wp2
    go_region
    go_wp2
    go_ret
  · exact ⟨congrArg (fun x => Ending.returned (.int .u64 x)) (turn_form x 1 134217728 hx (by decide) (by decide)), .one w⟩
  · exact ⟨congrArg (fun x => Ending.returned (.int .u64 x)) (turn_form x 2 67108864 hx (by decide) (by decide)), .one w⟩
set_option maxHeartbeats 800000 in
set_option maxRecDepth 100000 in
theorem bytes_any (x : Nat) (hx : x < 2 ^ 64) (w : World) : Calls Try.prog 54 #[.int .u64 (nv x)] w fun e w' => e = .returned (.agg (Bs (pbytes x))) ∧ Below w.heap.size w w' := by
  obtain ⟨n, hn⟩ : ∃ n, w.heap.size = n := ⟨_, rfl⟩
  have Hn := Lib.hid hn
  go_enter Try.func54, Try.ntmps54
  go_wp2_with (first
    | (refine alloc_row (w := w) rfl 23 rfl (.agg (Bs (List.replicate 8 0))) 8 (fun _ => by kernel_rfl) rfl ?_; intro w0 hR0 _ hG0 hs0)
    | (refine alloc_row (w := w0) rfl 23 rfl (.agg (Bs (List.replicate 8 0))) 8 (fun _ => by kernel_rfl) rfl ?_; intro w1 _ hB1 hG1 hs1))
  have hn0 : w0.heap.size = n + 1 := by omega
  have hB : Blk w1 (n + 1) 23 (bytesTo x 0) := by rw [← hn0]; exact hB1
  have hR : Row w1 n 23 8 := by rw [hn] at hR0; exact hR0.old hG1 (by simp)
  have hBl : Below n w w1 := below_none (below_none (Below.refl n w) (by omega) hG0) (by omega) hG1
  have hsz : n + 2 ≤ w1.heap.size := by omega
  clear hR0 hG0 hs0 hB1 hG1 hs1 hn0 hn
  go_loopw [5] (fun i wr => ∃ k : Nat, k ≤ 8 ∧ i = .int .i64 k ∧ Blk wr (n + 1) 23 (bytesTo x k) ∧ Row wr n 23 8 ∧ Below n w wr ∧ n + 2 ≤ wr.heap.size) (fun i _ => 8 - (intOf i).toNat)
  case atStart => exact ⟨0, by omega, rfl, hB, hR, hBl, hsz⟩
  case round =>
    clear hB hR hBl hsz
    obtain ⟨k, hk, rfl, hB, hR, hBl, hsz⟩ := hrel
    by_cases hlt : k < 8
    · have c1 : wr.cell? ⟨n + 1, k, none⟩ = some (.int .u8 (bv (g8 (bytesTo x k) k))) := hB.cell k (by rw [bytesTo_len]; exact hlt)
      have f1 : wr.frozen? ⟨n + 1, k, none⟩ = false := hB.free k
      have HB := Lib.hid hB
      have HR := Lib.hid hR
      have HBl := Lib.hid hBl
      clear hB hR hBl
      have hby : nv x / (2 : Int) ^ (56 - 8 * k) % (256 : Int) = bv (UInt8.ofNat (x / 2 ^ (56 - 8 * k))) := by rw [← byte_of x (56 - 8 * k) hx, IntKind.wrap_u8]
      obtain ⟨y, hy⟩ : ∃ y, UInt8.ofNat (x / 2 ^ (56 - 8 * k)) = y := ⟨_, rfl⟩
      rw [hy] at hby
      have HY := Lib.hid hy
      clear hy
      go_wp2
      go_roundw
      case rel =>
        refine ⟨k + 1, by omega, by go_num, ?_, HR.out.old (grown_set (grown_refl _ (some (n + 1))) _ _) (by simp), below_new HBl.out (by omega) (grown_set (grown_refl _ (some (n + 1))) _ _) (by omega), by simp; omega⟩
        rw [← bytesTo_set x k hlt, HY.out]
        exact HB.out.set k y
      case measure => simp [intOf]; omega
    · have HE := Lib.hid (show k = 8 by omega)
      have HB := Lib.hid (show Blk wr (n + 1) 23 (pbytes x) from by rw [← bytesTo_eight, ← HE.out]; exact hB)
      have HBl := Lib.hid hBl
      clear hB hBl
      go_wp2_with (first
        | (refine load_blk rfl 23 _ rfl (n + 1) 23 8 5 (pbytes x) rfl HB.out (pbytes_len x) (by kernel_rfl) (by kernel_rfl) ?_)
        | (refine store_blk rfl 23 _ _ rfl n 23 8 (pbytes x) rfl rfl hR (pbytes_len x) (by kernel_rfl) ?_; intro w8 hB8 hG8 hs8))
      refine bodyPost_ret (results_blk1 rfl _ _ n 23 8 5 (pbytes x) rfl hB8 (pbytes_len x) (by kernel_rfl) (by kernel_rfl)) rfl ⟨rfl, ?_⟩
      rw [Hn.out]; exact below_new HBl.out (by omega) hG8 (Nat.le_refl _)
end Go.Proofs.Ytjbdhnmkeaogcaa
