/- DES: a block. -/
import Derived.Test.YtjbdhnmkeaogcaaDesR
set_option linter.unusedVariables false
set_option linter.unusedSimpArgs false
namespace Lk
open Go Go.RowKit
/-- which key a round takes -/
def ixOf (back : Bool) (k : Nat) : Nat := bif back then 15 - k else k
/-- both halves ahead of round k -/
def lrTo (ks : List Nat) (back : Bool) (x : Nat) : Nat → Nat × Nat
  | 0 => (x / 4294967296, x &&& 4294967295)
  | k + 1 => ((lrTo ks back x k).2, (lrTo ks back x k).1 ^^^ dmix (lrTo ks back x k).2 (gN ks (ixOf back k)))
def dblock (key b : List UInt8) (back : Bool) : List UInt8 :=
  pbytes (unperm ((lrTo (dkeys key) back (perm (num b) 64 tabIP) 16).2 * 4294967296 ||| (lrTo (dkeys key) back (perm (num b) 64 tabIP) 16).1) tabIP)
theorem len_P : tabP.length = 32 := by decide +kernel
theorem len_IP : tabIP.length = 64 := by decide +kernel
theorem dmix_lt (h k : Nat) : dmix h k < 4294967296 := by
  have := permTo_lt (mixTo h k 8) 32 tabP tabP.length
  unfold dmix perm
  exact Nat.lt_of_lt_of_eq this (by rw [len_P])
theorem perm_IP_lt (x : Nat) : perm x 64 tabIP < 2 ^ 64 := by
  have h := permTo_lt x 64 tabIP tabIP.length
  unfold perm
  exact Nat.lt_of_lt_of_eq h (by rw [len_IP])
theorem unperm_IP_lt (x : Nat) : unperm x tabIP < 2 ^ 64 := unpTo_lt x tabIP tabIP.length (fun j hj => by
  have : ∀ k, k < tabIP.length → 1 ≤ tabIP.getD k 0 := by decide +kernel
  exact this j hj)
theorem lrTo_lt (ks : List Nat) (back : Bool) (x : Nat) (hx : x < 2 ^ 64) (k : Nat) : (lrTo ks back x k).1 < 4294967296 ∧ (lrTo ks back x k).2 < 4294967296 := by
  induction k with
  | zero => exact ⟨by show x / 4294967296 < _; omega, Nat.lt_of_lt_of_eq (Nat.and_lt_two_pow (n := 32) x (by decide)) (by decide)⟩
  | succ k ih => exact ⟨ih.2, Nat.xor_lt_two_pow (n := 32) ih.1 (dmix_lt _ _)⟩
theorem dkeys_lt (b : List UInt8) (k : Nat) : gN (dkeys b) k < 2 ^ 48 := by
  unfold gN dkeys keysTo
  rcases getD_of_mem ((List.range 16).map fun i => if i < 16 then dkeyOf (perm (num b) 64 tabPC1) i else 0) k 0 with h | h
  · obtain ⟨i, hi, e⟩ := List.mem_map.1 h
    rw [← e]
    split
    · exact dkeyOf_lt _ _
    · decide
  · rw [h]; decide
theorem half32_form (x : Nat) (hx : x < 2 ^ 64) : nv x / (4294967296 : Int) = nv (x / 4294967296) ∧ bits BinOp.and IntKind.u64 (nv x) 4294967295 = nv (x &&& 4294967295) := by
  unfold nv
  have e3 : (4294967295 : Int) = ((4294967295 : Nat) : Int) := rfl
  exact ⟨by simp, by rw [e3, bits_and_u64 _ _ hx (by decide)]⟩
theorem join32 (c d : Nat) (hc : c < 4294967296) (hd : d < 4294967296) : bits BinOp.or IntKind.u64 (IntKind.u64.wrap (nv c * (4294967296 : Int))) (nv d) = nv (c * 4294967296 ||| d) ∧ c * 4294967296 ||| d < 2 ^ 64 := by
  unfold nv
  have e1 : (c : Int) * (4294967296 : Int) = ((c * 4294967296 : Nat) : Int) := by simp
  rw [e1, wrap_u64 _ (by omega)]
  exact ⟨bits_or_u64 _ _ (by omega) (by omega), Nat.or_lt_two_pow (by omega) (by omega)⟩
theorem xor32 (c d : Nat) (hc : c < 4294967296) (hd : d < 4294967296) : bits BinOp.xor IntKind.u64 (nv c) (nv d) = nv (c ^^^ d) := by
  unfold nv
  exact bits_xor_u64 _ _ (by omega) (by omega)
end Lk
namespace Go.Proofs.Ytjbdhnmkeaogcaa
open Go.RowKit Lk
set_option maxHeartbeats 1600000 in
set_option maxRecDepth 100000 in
theorem Block_any (key b : List UInt8) (back : Bool) (hk : key.length = 8) (hb : b.length = 8) (w : World) : Calls Try.prog 43 #[.agg (Bs key), .agg (Bs b), .bool back] w fun e w' => e = .returned (.agg (Bs (dblock key b back))) ∧ Below w.heap.size w w' := by
  obtain ⟨n, hn⟩ : ∃ n, w.heap.size = n := ⟨_, rfl⟩
  have Hn := Lib.hid hn
  have HNB := Lib.hid hb
  have HNK := Lib.hid hk
  have hP := fun w => permute_IP (num b) w (num_lt b)
  have hx := perm_IP_lt (num b)
  obtain ⟨x, ex⟩ : ∃ x, perm (num b) 64 tabIP = x := ⟨_, rfl⟩
  rw [ex] at hx
  simp only [ex] at hP
  have HP := Lib.hid hP
  have EX := Lib.hid ex
  obtain ⟨hh1, hh2⟩ := half32_form x hx
  obtain ⟨ks, eks⟩ : ∃ ks, dkeys key = ks := ⟨_, rfl⟩
  have hR := Rounds_any key hk
  have hkl := dkeys_len key
  have hk48 := dkeys_lt key
  rw [eks] at hkl
  simp only [eks] at hR hk48
  have HRo := Lib.hid hR
  have HKL := Lib.hid hkl
  have HK48 := Lib.hid hk48
  have EKS := Lib.hid eks
  clear hP ex hR hk48 eks
  cases back
  · go_enter Try.func43, Try.ntmps43
    go_wp2_with (first
      | ((with_reducible show wpList _ _ _ _ _ w); refine box_blk (w := w) rfl 23 _ rfl key rfl ?_; intro w0 hB0 hG0 hs0)
      | ((with_reducible show wpList _ _ _ _ _ w0); refine box_blk (w := w0) rfl 23 _ rfl b rfl ?_; intro w1 hB1 hG1 hs1)
      | ((with_reducible show wpList _ _ _ _ _ w1); refine alloc_row (w := w1) rfl 23 rfl (.agg (Bs (List.replicate 8 0))) 8 (fun _ => by kernel_rfl) rfl ?_; intro w2 hR2 _ hG2 hs2)
      | ((with_reducible show wpList _ _ _ _ _ w2); refine load_blk (w := w2) rfl 23 _ rfl w.heap.size 23 8 5 key rfl ((hB0.old hG1 (by simp)).old hG2 (by simp)) HNK.out (by kernel_rfl) (by kernel_rfl) ?_)
      | (go_at_call 50; refine (HRo.out _).mono ?_; rintro e w3 ⟨rfl, hG3⟩)
      | ((with_reducible show wpList _ _ _ _ _ w3); refine alloc_row (w := w3) rfl 89 rfl (.agg (Ns (List.replicate 16 0))) 16 (fun _ => by kernel_rfl) rfl ?_; intro w4 hR4 _ hG4 hs4)
      | ((with_reducible show wpList _ _ _ _ _ w4); refine store_nblk (w := w4) rfl 89 _ _ rfl w3.heap.size 89 16 ks rfl rfl hR4 HKL.out (by kernel_rfl) ?_; intro w5 hB5 hG5 hs5)
      | ((with_reducible show wpList _ _ _ _ _ w5); refine load_blk (w := w5) rfl 23 _ rfl (n + 1) 23 8 5 b rfl (by
          have e0 : w0.heap.size = n + 1 := by omega
          have := hG3.size
          rw [e0] at hB1
          exact ((((hB1.old hG2 (by simp)).below hG3 (by omega)).old hG4 (by simp)).old hG5 (by simp; omega))) HNB.out (by kernel_rfl) (by kernel_rfl) ?_)
      | (go_at_call 52; refine (number_any b HNB.out _).mono ?_; rintro e w6 ⟨rfl, hG6⟩)
      | (go_at_call 51; refine (HP.out _).mono ?_; rintro e w7 ⟨rfl, hD7⟩))
    have h3 := hG3.size
    have e2 : w2.heap.size = n + 1 + 1 + 1 := by omega
    have e3 : n + 3 ≤ w3.heap.size := by omega
    obtain ⟨g, eg⟩ : ∃ g, w3.heap.size = g := ⟨_, rfl⟩
    have hR5 : Row w5 (n + 1 + 1) 23 8 := by
      have e1 : w1.heap.size = n + 1 + 1 := by omega
      rw [e1] at hR2
      obtain ⟨old, h1, h2⟩ := hR2
      have hR3 : Row w3 (n + 1 + 1) 23 8 := ⟨old, by rw [hG3.block _ (by omega)]; exact h1, h2⟩
      exact (hR3.old hG4 (by simp)).old hG5 (by simp; omega)
    have hBl5 : Below n w w5 := below_new (below_none (below_more (below_none (below_none (below_none (Below.refl n w) (by omega) hG0) (by omega) hG1) (by omega) hG2) hG3 (by omega)) (by omega) hG4) (by omega) hG5 (by omega)
    obtain ⟨m, rfl⟩ := hD7
    have hB7 : NBlk (w6.drewN m) g 89 ks := by rw [eg] at hB5; exact (hB5.below hG6 (by omega)).drewN m
    have hR7 : Row (w6.drewN m) (n + 1 + 1) 23 8 := by
      obtain ⟨old, h1, h2⟩ := hR5
      exact ⟨old, by show w6.heap[n + 1 + 1]? = _; rw [hG6.block _ (by omega)]; exact h1, h2⟩
    have hBl7 : Below n w (w6.drewN m) := by
      have h3 : Below n w w6 := below_more hBl5 hG6 (by omega)
      exact ⟨h3.os, h3.tape, h3.output, h3.size, h3.block⟩
    have hsz : g + 1 ≤ (w6.drewN m).heap.size := by have := hG6.size; show g + 1 ≤ w6.heap.size; omega
    have hgn : n + 3 ≤ g := by omega
    rw [eg]
    clear hB0 hG0 hs0 hB1 hG1 hs1 hR2 hG2 hs2 hR4 hG4 hs4 hB5 hG5 hs5 hR5 hBl5 h3 e2 e3 eg hG3 hG6 hn
    obtain ⟨w8, ew8⟩ : ∃ w8, w6.drewN m = w8 := ⟨_, rfl⟩
    rw [ew8] at hB7 hR7 hBl7 hsz ⊢
    clear ew8
    go_loopw [9, 10, 21] (fun l r i wr => ∃ k : Nat, k ≤ 16 ∧ i = .int .i64 k ∧ l = .int .u64 (nv (lrTo ks false x k).1) ∧ r = .int .u64 (nv (lrTo ks false x k).2) ∧ NBlk wr g 89 ks ∧ Row wr (n + 1 + 1) 23 8 ∧ Below n w wr ∧ g + 1 ≤ wr.heap.size) (fun _ _ i _ => 16 - (intOf i).toNat)
    case atStart => exact ⟨0, by omega, rfl, rfl, rfl, hB7, hR7, hBl7, hsz⟩
    case round =>
      clear hB7 hR7 hBl7 hsz hh1 hh2
      obtain ⟨k, hk, rfl, rfl, rfl, hB, hR, hBl, hsz⟩ := hrel
      obtain ⟨hll, hrl⟩ := lrTo_lt ks false x hx k
      obtain ⟨l, el⟩ : ∃ l, (lrTo ks false x k).1 = l := ⟨_, rfl⟩
      obtain ⟨r, er⟩ : ∃ r, (lrTo ks false x k).2 = r := ⟨_, rfl⟩
      rw [el] at hll
      rw [er] at hrl
      rw [el, er]
      have EL := Lib.hid el
      have ER := Lib.hid er
      by_cases hlt : k < 16
      · obtain ⟨j, ej⟩ : ∃ j, k = j := ⟨_, rfl⟩
        have hj : j < 16 := by omega
        have c1 : wr.cell? ⟨g, k, none⟩ = some (.int .u64 (nv (gN ks j))) := by rw [ej]; exact hB.cell j (by rw [HKL.out]; exact hj)
        have hq := HK48.out j
        obtain ⟨q, eq⟩ : ∃ q, gN ks j = q := ⟨_, rfl⟩
        rw [eq] at c1 hq
        have hxo := xor32 l (dmix r q) hll (dmix_lt _ _)
        have HM := Lib.hid (mix_any r q wr (Nat.lt_of_lt_of_eq hrl (by decide)) hq)
        have FIN : ∀ M : Nat, ∃ k' : Nat, k' ≤ 16 ∧ Value.int .i64 ((k : Int) + 1) = .int .i64 k' ∧ Value.int .u64 (nv r) = .int .u64 (nv (lrTo ks false x k').1) ∧ Value.int .u64 (nv (l ^^^ dmix r q)) = .int .u64 (nv (lrTo ks false x k').2) ∧ NBlk (wr.drewN M) g 89 ks ∧ Row (wr.drewN M) (n + 1 + 1) 23 8 ∧ Below n w (wr.drewN M) ∧ g + 1 ≤ (wr.drewN M).heap.size := by
          intro M
          refine ⟨k + 1, hlt, by go_num, ?_, ?_, hB.drewN M, hR, ⟨hBl.os, hBl.tape, hBl.output, hBl.size, hBl.block⟩, hsz⟩
          · show _ = Value.int .u64 (nv (lrTo ks false x k).2); rw [er]
          · have e : ixOf false k = j := by rw [← ej]; rfl
            show _ = Value.int .u64 (nv ((lrTo ks false x k).1 ^^^ dmix (lrTo ks false x k).2 (gN ks (ixOf false k)))); rw [el, er, e, eq]
        have HF := Lib.hid FIN
        have HL := Lib.hid hlt
        clear FIN el er ej hj hq eq hll hrl hB hR hBl
        go_wp2_with (go_at_call 53; refine HM.out.mono ?_; rintro e w' ⟨rfl, ⟨M, rfl⟩⟩)
        go_roundw
        case rel => exact HF.out M
        case measure => have : k < 16 := HL.out; simp [intOf]; omega
      · have HE := Lib.hid (show k = 16 by omega)
        obtain ⟨hj, hy⟩ := join32 r l hrl hll
        obtain ⟨y, ey⟩ : ∃ y, r * 4294967296 ||| l = y := ⟨_, rfl⟩
        rw [ey] at hj hy
        have HU := Lib.hid (unpermute_IP y wr hy)
        have HZ := Lib.hid (unperm_IP_lt y)
        have HRs := Lib.hid (show dblock key b false = pbytes (unperm y tabIP) by
          unfold dblock
          rw [EKS.out, EX.out, ← HE.out, el, er, ey])
        have HR := Lib.hid hR
        have HBl := Lib.hid hBl
        clear el er ey hy hll hrl hB hR hBl
        go_wp2_with (first
          | (go_at_call 55; refine HU.out.mono ?_; rintro e w' ⟨rfl, ⟨M, rfl⟩⟩)
          | (go_at_call 54; refine (bytes_any _ HZ.out _).mono ?_; rintro e w9 ⟨rfl, hG9⟩)
          | (refine store_blk rfl 23 _ _ rfl (n + 1 + 1) 23 8 (pbytes (unperm y tabIP)) rfl rfl (by
              obtain ⟨old, h1, h2⟩ := HR.out
              have e : (wr.drewN M).heap = wr.heap := rfl
              rw [e] at hG9
              exact ⟨old, by rw [hG9.block _ (by omega)]; exact h1, h2⟩) (pbytes_len _) (by kernel_rfl) ?_; intro w10 hB10 hG10 hs10))
        refine bodyPost_ret (results_blk1 rfl _ _ (n + 1 + 1) 23 8 5 (pbytes (unperm y tabIP)) rfl hB10 (pbytes_len _) (by kernel_rfl) (by kernel_rfl)) rfl ⟨by rw [HRs.out], ?_⟩
        have hb9 : Below n w (wr.drewN M) := ⟨HBl.out.os, HBl.out.tape, HBl.out.output, HBl.out.size, HBl.out.block⟩
        have e : (wr.drewN M).heap = wr.heap := rfl
        rw [e] at hG9
        have hs9 := hG9.size
        rw [e] at hs9
        rw [Hn.out]
        exact below_new (below_more hb9 hG9 (by omega)) (by omega) hG10 (by omega)
  · go_enter Try.func43, Try.ntmps43
    go_wp2_with (first
      | ((with_reducible show wpList _ _ _ _ _ w); refine box_blk (w := w) rfl 23 _ rfl key rfl ?_; intro w0 hB0 hG0 hs0)
      | ((with_reducible show wpList _ _ _ _ _ w0); refine box_blk (w := w0) rfl 23 _ rfl b rfl ?_; intro w1 hB1 hG1 hs1)
      | ((with_reducible show wpList _ _ _ _ _ w1); refine alloc_row (w := w1) rfl 23 rfl (.agg (Bs (List.replicate 8 0))) 8 (fun _ => by kernel_rfl) rfl ?_; intro w2 hR2 _ hG2 hs2)
      | ((with_reducible show wpList _ _ _ _ _ w2); refine load_blk (w := w2) rfl 23 _ rfl w.heap.size 23 8 5 key rfl ((hB0.old hG1 (by simp)).old hG2 (by simp)) HNK.out (by kernel_rfl) (by kernel_rfl) ?_)
      | (go_at_call 50; refine (HRo.out _).mono ?_; rintro e w3 ⟨rfl, hG3⟩)
      | ((with_reducible show wpList _ _ _ _ _ w3); refine alloc_row (w := w3) rfl 89 rfl (.agg (Ns (List.replicate 16 0))) 16 (fun _ => by kernel_rfl) rfl ?_; intro w4 hR4 _ hG4 hs4)
      | ((with_reducible show wpList _ _ _ _ _ w4); refine store_nblk (w := w4) rfl 89 _ _ rfl w3.heap.size 89 16 ks rfl rfl hR4 HKL.out (by kernel_rfl) ?_; intro w5 hB5 hG5 hs5)
      | ((with_reducible show wpList _ _ _ _ _ w5); refine load_blk (w := w5) rfl 23 _ rfl (n + 1) 23 8 5 b rfl (by
          have e0 : w0.heap.size = n + 1 := by omega
          have := hG3.size
          rw [e0] at hB1
          exact ((((hB1.old hG2 (by simp)).below hG3 (by omega)).old hG4 (by simp)).old hG5 (by simp; omega))) HNB.out (by kernel_rfl) (by kernel_rfl) ?_)
      | (go_at_call 52; refine (number_any b HNB.out _).mono ?_; rintro e w6 ⟨rfl, hG6⟩)
      | (go_at_call 51; refine (HP.out _).mono ?_; rintro e w7 ⟨rfl, hD7⟩))
    have h3 := hG3.size
    have e2 : w2.heap.size = n + 1 + 1 + 1 := by omega
    have e3 : n + 3 ≤ w3.heap.size := by omega
    obtain ⟨g, eg⟩ : ∃ g, w3.heap.size = g := ⟨_, rfl⟩
    have hR5 : Row w5 (n + 1 + 1) 23 8 := by
      have e1 : w1.heap.size = n + 1 + 1 := by omega
      rw [e1] at hR2
      obtain ⟨old, h1, h2⟩ := hR2
      have hR3 : Row w3 (n + 1 + 1) 23 8 := ⟨old, by rw [hG3.block _ (by omega)]; exact h1, h2⟩
      exact (hR3.old hG4 (by simp)).old hG5 (by simp; omega)
    have hBl5 : Below n w w5 := below_new (below_none (below_more (below_none (below_none (below_none (Below.refl n w) (by omega) hG0) (by omega) hG1) (by omega) hG2) hG3 (by omega)) (by omega) hG4) (by omega) hG5 (by omega)
    obtain ⟨m, rfl⟩ := hD7
    have hB7 : NBlk (w6.drewN m) g 89 ks := by rw [eg] at hB5; exact (hB5.below hG6 (by omega)).drewN m
    have hR7 : Row (w6.drewN m) (n + 1 + 1) 23 8 := by
      obtain ⟨old, h1, h2⟩ := hR5
      exact ⟨old, by show w6.heap[n + 1 + 1]? = _; rw [hG6.block _ (by omega)]; exact h1, h2⟩
    have hBl7 : Below n w (w6.drewN m) := by
      have h3 : Below n w w6 := below_more hBl5 hG6 (by omega)
      exact ⟨h3.os, h3.tape, h3.output, h3.size, h3.block⟩
    have hsz : g + 1 ≤ (w6.drewN m).heap.size := by have := hG6.size; show g + 1 ≤ w6.heap.size; omega
    have hgn : n + 3 ≤ g := by omega
    rw [eg]
    clear hB0 hG0 hs0 hB1 hG1 hs1 hR2 hG2 hs2 hR4 hG4 hs4 hB5 hG5 hs5 hR5 hBl5 h3 e2 e3 eg hG3 hG6 hn
    obtain ⟨w8, ew8⟩ : ∃ w8, w6.drewN m = w8 := ⟨_, rfl⟩
    rw [ew8] at hB7 hR7 hBl7 hsz ⊢
    clear ew8
    go_loopw [9, 10, 21] (fun l r i wr => ∃ k : Nat, k ≤ 16 ∧ i = .int .i64 k ∧ l = .int .u64 (nv (lrTo ks true x k).1) ∧ r = .int .u64 (nv (lrTo ks true x k).2) ∧ NBlk wr g 89 ks ∧ Row wr (n + 1 + 1) 23 8 ∧ Below n w wr ∧ g + 1 ≤ wr.heap.size) (fun _ _ i _ => 16 - (intOf i).toNat)
    case atStart => exact ⟨0, by omega, rfl, rfl, rfl, hB7, hR7, hBl7, hsz⟩
    case round =>
      clear hB7 hR7 hBl7 hsz hh1 hh2
      obtain ⟨k, hk, rfl, rfl, rfl, hB, hR, hBl, hsz⟩ := hrel
      obtain ⟨hll, hrl⟩ := lrTo_lt ks true x hx k
      obtain ⟨l, el⟩ : ∃ l, (lrTo ks true x k).1 = l := ⟨_, rfl⟩
      obtain ⟨r, er⟩ : ∃ r, (lrTo ks true x k).2 = r := ⟨_, rfl⟩
      rw [el] at hll
      rw [er] at hrl
      rw [el, er]
      have EL := Lib.hid el
      have ER := Lib.hid er
      by_cases hlt : k < 16
      · obtain ⟨j, ej⟩ : ∃ j, (15 - k) = j := ⟨_, rfl⟩
        have hj : j < 16 := by omega
        have c1 : wr.cell? ⟨g, (15 - k), none⟩ = some (.int .u64 (nv (gN ks j))) := by rw [ej]; exact hB.cell j (by rw [HKL.out]; exact hj)
        have hq := HK48.out j
        obtain ⟨q, eq⟩ : ∃ q, gN ks j = q := ⟨_, rfl⟩
        rw [eq] at c1 hq
        have hxo := xor32 l (dmix r q) hll (dmix_lt _ _)
        have HM := Lib.hid (mix_any r q wr (Nat.lt_of_lt_of_eq hrl (by decide)) hq)
        have FIN : ∀ M : Nat, ∃ k' : Nat, k' ≤ 16 ∧ Value.int .i64 ((k : Int) + 1) = .int .i64 k' ∧ Value.int .u64 (nv r) = .int .u64 (nv (lrTo ks true x k').1) ∧ Value.int .u64 (nv (l ^^^ dmix r q)) = .int .u64 (nv (lrTo ks true x k').2) ∧ NBlk (wr.drewN M) g 89 ks ∧ Row (wr.drewN M) (n + 1 + 1) 23 8 ∧ Below n w (wr.drewN M) ∧ g + 1 ≤ (wr.drewN M).heap.size := by
          intro M
          refine ⟨k + 1, hlt, by go_num, ?_, ?_, hB.drewN M, hR, ⟨hBl.os, hBl.tape, hBl.output, hBl.size, hBl.block⟩, hsz⟩
          · show _ = Value.int .u64 (nv (lrTo ks true x k).2); rw [er]
          · have e : ixOf true k = j := by rw [← ej]; rfl
            show _ = Value.int .u64 (nv ((lrTo ks true x k).1 ^^^ dmix (lrTo ks true x k).2 (gN ks (ixOf true k)))); rw [el, er, e, eq]
        have HF := Lib.hid FIN
        have HL := Lib.hid hlt
        clear FIN el er ej hj hq eq hll hrl hB hR hBl
        go_wp2_with (go_at_call 53; refine HM.out.mono ?_; rintro e w' ⟨rfl, ⟨M, rfl⟩⟩)
        go_roundw
        case rel => exact HF.out M
        case measure => have : k < 16 := HL.out; simp [intOf]; omega
      · have HE := Lib.hid (show k = 16 by omega)
        obtain ⟨hj, hy⟩ := join32 r l hrl hll
        obtain ⟨y, ey⟩ : ∃ y, r * 4294967296 ||| l = y := ⟨_, rfl⟩
        rw [ey] at hj hy
        have HU := Lib.hid (unpermute_IP y wr hy)
        have HZ := Lib.hid (unperm_IP_lt y)
        have HRs := Lib.hid (show dblock key b true = pbytes (unperm y tabIP) by
          unfold dblock
          rw [EKS.out, EX.out, ← HE.out, el, er, ey])
        have HR := Lib.hid hR
        have HBl := Lib.hid hBl
        clear el er ey hy hll hrl hB hR hBl
        go_wp2_with (first
          | (go_at_call 55; refine HU.out.mono ?_; rintro e w' ⟨rfl, ⟨M, rfl⟩⟩)
          | (go_at_call 54; refine (bytes_any _ HZ.out _).mono ?_; rintro e w9 ⟨rfl, hG9⟩)
          | (refine store_blk rfl 23 _ _ rfl (n + 1 + 1) 23 8 (pbytes (unperm y tabIP)) rfl rfl (by
              obtain ⟨old, h1, h2⟩ := HR.out
              have e : (wr.drewN M).heap = wr.heap := rfl
              rw [e] at hG9
              exact ⟨old, by rw [hG9.block _ (by omega)]; exact h1, h2⟩) (pbytes_len _) (by kernel_rfl) ?_; intro w10 hB10 hG10 hs10))
        refine bodyPost_ret (results_blk1 rfl _ _ (n + 1 + 1) 23 8 5 (pbytes (unperm y tabIP)) rfl hB10 (pbytes_len _) (by kernel_rfl) (by kernel_rfl)) rfl ⟨by rw [HRs.out], ?_⟩
        have hb9 : Below n w (wr.drewN M) := ⟨HBl.out.os, HBl.out.tape, HBl.out.output, HBl.out.size, HBl.out.block⟩
        have e : (wr.drewN M).heap = wr.heap := rfl
        rw [e] at hG9
        have hs9 := hG9.size
        rw [e] at hs9
        rw [Hn.out]
        exact below_new (below_more hb9 hG9 (by omega)) (by omega) hG10 (by omega)
end Go.Proofs.Ytjbdhnmkeaogcaa
