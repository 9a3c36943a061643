/- TDES: a key's parts. -/
import Derived.Test.YtjbdhnmkeaogcaaDesK
import Derived.Test.YtjbdhnmkeaogcaaMid
set_option linter.unusedVariables false
set_option linter.unusedSimpArgs false
namespace Lk
open Go Go.RowKit
/-- a key's three parts -/
def pparts (l : List UInt8) : List UInt8 :=
  if l.length = 24 then l else if l.length = 16 then l ++ l.take 8 else if l.length = 8 then l ++ List.replicate 16 0 else List.replicate 24 0
def okParts (l : List UInt8) : Bool := l.length == 24 || l.length == 16 || l.length == 8
theorem pparts_len (l : List UInt8) : (pparts l).length = 24 := by
  unfold pparts
  split
  · assumption
  · split
    · simp; omega
    · split
      · simp; omega
      · simp
theorem Rd.sub {w : World} {g o : Nat} {l : List UInt8} (h : Rd w g o l) (k n : Nat) (hn : k + n ≤ l.length) : Rd w g (o + k) ((l.drop k).take n) := by
  intro j hj
  rw [List.length_take, List.length_drop] at hj
  rw [Nat.add_assoc, h (k + j) (by omega)]
  have : g8 l (k + j) = g8 ((l.drop k).take n) j := by
    unfold g8
    rw [List.getD_eq_getElem?_getD, List.getD_eq_getElem?_getD, List.getElem?_take_of_lt (by omega), List.getElem?_drop]
  rw [this]
def part8 (l : List UInt8) (k : Nat) : List UInt8 := (l.drop k).take 8
theorem part8_len (l : List UInt8) (k : Nat) (h : k + 8 ≤ l.length) : (part8 l k).length = 8 := by unfold part8; simp; omega
theorem putAt_mid (A B C D : List UInt8) (k : Nat) (hk : k = A.length) (h : D.length = B.length) : putAt (A ++ (B ++ C)) k D = A ++ (D ++ C) := by
  subst hk
  rw [putAt_eq _ _ _ (by simp; omega), List.take_left, List.append_assoc]
  congr 2
  rw [h, ← List.append_assoc, List.drop_append_of_le_length (by simp)]
  simp
def z8 : List UInt8 := List.replicate 8 0
theorem z24 : List.replicate 24 (0 : UInt8) = z8 ++ (z8 ++ (z8 ++ [])) := by decide
theorem put16 (d : List UInt8) (h : d.length = 8) (x y : List UInt8) (hx : x.length = 8) (hy : y.length = 8) (z : List UInt8) (hz : z.length = 8) : putAt (x ++ (y ++ (z ++ []))) 16 d = x ++ (y ++ (d ++ [])) := by
  have := putAt_mid (x ++ y) z [] d 16 (by simp; omega) (by omega)
  simpa [List.append_assoc] using this
theorem put8 (d : List UInt8) (h : d.length = 8) (x y : List UInt8) (hx : x.length = 8) (hy : y.length = 8) (z : List UInt8) : putAt (x ++ (y ++ z)) 8 d = x ++ (d ++ z) :=
  putAt_mid x y z d 8 (by omega) (by omega)
theorem put0 (d : List UInt8) (h : d.length = 8) (x : List UInt8) (hx : x.length = 8) (z : List UInt8) : putAt (x ++ z) 0 d = d ++ z :=
  putAt_mid [] x z d 0 rfl (by omega)
theorem z8_len : z8.length = 8 := rfl
theorem part8_0 (l : List UInt8) : part8 l 0 = l.take 8 := by unfold part8; rw [List.drop_zero]
theorem parts_24 (l : List UInt8) (h : l.length = 24) : putAt (putAt (putAt (List.replicate 24 0) 16 (part8 l 16)) 8 (part8 l 8)) 0 (part8 l 0) = pparts l := by
  have h0 := part8_len l 0 (by omega)
  have h8 := part8_len l 8 (by omega)
  have h16 := part8_len l 16 (by omega)
  rw [z24, put16 _ h16 _ _ z8_len z8_len _ z8_len, put8 _ h8 _ _ z8_len z8_len, put0 _ h0 _ z8_len]
  unfold pparts
  rw [if_pos h]
  unfold part8
  have e : List.take 8 (List.drop 16 l) = List.drop 16 l := List.take_of_length_le (by simp; omega)
  have e2 : List.drop 16 l = List.drop 8 (List.drop 8 l) := by rw [List.drop_drop]
  rw [e, e2, List.append_nil, List.drop_zero, List.take_append_drop, List.take_append_drop]
theorem parts_16 (l : List UInt8) (h : l.length = 16) : putAt (putAt (putAt (List.replicate 24 0) 8 (part8 l 8)) 0 (part8 l 0)) 16 (part8 l 0) = pparts l := by
  have h0 := part8_len l 0 (by omega)
  have h8 := part8_len l 8 (by omega)
  rw [z24, put8 _ h8 _ _ z8_len z8_len, put0 _ h0 _ z8_len, put16 _ h0 _ _ h0 h8 _ z8_len]
  unfold pparts
  rw [if_neg (by omega), if_pos h, part8_0, List.append_nil]
  unfold part8
  have e : List.take 8 (List.drop 8 l) = List.drop 8 l := List.take_of_length_le (by simp; omega)
  rw [e, ← List.append_assoc, List.take_append_drop]
theorem sub_16 (l : List UInt8) (h : l.length = 16) : part8 (putAt (putAt (List.replicate 24 0) 8 (part8 l 8)) 0 (part8 l 0)) 0 = part8 l 0 := by
  have h0 := part8_len l 0 (by omega)
  have h8 := part8_len l 8 (by omega)
  rw [z24, put8 _ h8 _ _ z8_len z8_len, put0 _ h0 _ z8_len, part8_0, List.take_left' h0]
theorem parts_8 (l : List UInt8) (h : l.length = 8) : putAt (List.replicate 24 0) 0 (part8 l 0) = pparts l := by
  have h0 := part8_len l 0 (by omega)
  rw [z24, put0 _ h0 _ z8_len]
  unfold pparts
  rw [if_neg (by omega), if_neg (by omega), if_pos h, part8_0, List.take_of_length_le (by omega)]
  rfl
theorem parts_no (l : List UInt8) (h : okParts l = false) : pparts l = List.replicate 24 0 := by
  simp [okParts] at h
  unfold pparts
  rw [if_neg h.1.1, if_neg h.1.2, if_neg h.2]
end Lk
namespace Go.Proofs.Ytjbdhnmkeaogcaa
open Go.RowKit Lk
set_option maxHeartbeats 1600000 in
set_option maxRecDepth 100000 in
theorem parts_any (v : Value) (l : List UInt8) (w : World) (h : SlB w v l) : Calls Try.prog 42 #[v] w fun e w' => e = .returned (.tuple #[.agg (Bs (pparts l)), .bool (okParts l)]) ∧ Below w.heap.size w w' := by
  obtain ⟨n, hn⟩ : ∃ n, w.heap.size = n := ⟨_, rfl⟩
  have Hn := Lib.hid hn
  obtain ⟨A, c, rfl, hA, hlc, hcm, hr⟩ := h
  by_cases h24 : l.length = 24
  · obtain ⟨g, o, rfl, hrd⟩ := hr (by omega)
    have hgn : g < n := by rw [← hn]; exact block_of_cell (hrd 0 (by omega))
    have HRD := Lib.hid (show ∀ k, k + 8 ≤ 24 → ∀ w1, Below n w w1 → Rd w1 g (o + k) (part8 l k) from fun k hk w1 hG => Rd.sub (hrd.below hG hgn) k 8 (by omega))
    have HP8 := Lib.hid (show ∀ k, k + 8 ≤ 24 → (part8 l k).length = 8 from fun k hk => part8_len l k (by omega))
    have HL := Lib.hid h24
    have hc : 24 ≤ c := by omega
    rw [h24]
    clear h24 hr hlc hrd 
    go_enter Try.func42, Try.ntmps42
    go_wp2_with (first
      | ((with_reducible show wpList _ _ _ _ _ w); refine alloc_row (w := w) rfl 80 rfl (.agg (Bs (List.replicate 24 0))) 24 (fun _ => by kernel_rfl) rfl ?_; intro w0 hR0 _ hG0 hs0)
      | ((with_reducible show wpList _ _ _ _ _ w0); refine alloc_row (w := w0) rfl 80 rfl (.agg (Bs (List.replicate 24 0))) 24 (fun _ => by kernel_rfl) rfl ?_; intro w1 _ hB1 hG1 hs1; have hL1 : Below n w w1 := below_none (below_none (Below.refl n w) (by omega) hG0) (by omega) hG1; have hC1 : Blk w1 (n + 1) 80 (List.replicate 24 0) := (by have e : w0.heap.size = n + 1 := (by omega); rw [e] at hB1; exact hB1))
      | ((with_reducible show wpList _ _ _ _ _ w1); refine to_array rfl 23 _ rfl (some ⟨g, (o + 16), none⟩) 8 8 _ 5 rfl (by omega) (by kernel_rfl) ?_)
      | ((with_reducible show wpList _ _ _ _ _ w1); refine load_rd rfl 23 _ rfl g (o + 16) 8 5 (part8 l 16) rfl (HRD.out 16 (by omega) _ hL1) (HP8.out 16 (by omega)) (by kernel_rfl) (by kernel_rfl) ?_)
      | ((with_reducible show wpList _ _ _ _ _ w1); refine store_mid rfl 23 _ _ rfl (n + 1) 16 80 8 (List.replicate 24 0) (part8 l 16) rfl rfl hC1 (HP8.out 16 (by omega)) (by simp [putAt_len]) (by kernel_rfl) ?_; intro w2 hC2 hG2 hs2; have hL2 : Below n w w2 := below_new hL1 (by omega) hG2 (by omega))
      | ((with_reducible show wpList _ _ _ _ _ w2); refine to_array rfl 23 _ rfl (some ⟨g, (o + 8), none⟩) 8 8 _ 5 rfl (by omega) (by kernel_rfl) ?_)
      | ((with_reducible show wpList _ _ _ _ _ w2); refine load_rd rfl 23 _ rfl g (o + 8) 8 5 (part8 l 8) rfl (HRD.out 8 (by omega) _ hL2) (HP8.out 8 (by omega)) (by kernel_rfl) (by kernel_rfl) ?_)
      | ((with_reducible show wpList _ _ _ _ _ w2); refine store_mid rfl 23 _ _ rfl (n + 1) 8 80 8 (putAt (List.replicate 24 0) 16 (part8 l 16)) (part8 l 8) rfl rfl hC2 (HP8.out 8 (by omega)) (by simp [putAt_len]) (by kernel_rfl) ?_; intro w3 hC3 hG3 hs3; have hL3 : Below n w w3 := below_new hL2 (by omega) hG3 (by omega))
      | ((with_reducible show wpList _ _ _ _ _ w3); refine to_array rfl 23 _ rfl (some ⟨g, o, none⟩) 8 8 _ 5 rfl (by omega) (by kernel_rfl) ?_)
      | ((with_reducible show wpList _ _ _ _ _ w3); refine load_rd rfl 23 _ rfl g o 8 5 (part8 l 0) rfl (HRD.out 0 (by omega) _ hL3) (HP8.out 0 (by omega)) (by kernel_rfl) (by kernel_rfl) ?_)
      | ((with_reducible show wpList _ _ _ _ _ w3); refine store_mid rfl 23 _ _ rfl (n + 1) 0 80 8 (putAt (putAt (List.replicate 24 0) 16 (part8 l 16)) 8 (part8 l 8)) (part8 l 0) rfl rfl hC3 (HP8.out 0 (by omega)) (by simp [putAt_len]) (by kernel_rfl) ?_; intro w4 hC4 hG4 hs4; have hL4 : Below n w w4 := below_new hL3 (by omega) hG4 (by omega))
      | ((with_reducible show wpList _ _ _ _ _ w4); refine load_blkm rfl 80 _ rfl (n + 1) 80 3 23 24 (pparts l) rfl (by have h0 := hC4; rw [parts_24 l HL.out] at h0; exact h0) (pparts_len l) (by kernel_rfl) (by kernel_rfl) ?_)
      | ((with_reducible show wpList _ _ _ _ _ w4); refine store_blk rfl 80 _ _ rfl n 80 24 (pparts l) rfl rfl (by have h0 := hR0.old hG1 (by simp); rw [hn] at h0; exact (((h0.old hG2 (by simp)).old hG3 (by simp)).old hG4 (by simp))) (pparts_len l) (by kernel_rfl) ?_; intro w9 hB9 hG9 hs9))
    have ho : okParts l = true := by simp [okParts, HL.out]
    refine bodyPost_ret (results_blkm rfl _ _ n 80 3 23 24 (pparts l) rfl hB9 (pparts_len l) (by kernel_rfl) (by kernel_rfl)) rfl ⟨by rw [ho]; rfl, ?_⟩
    rw [Hn.out]
    exact below_new hL4 (by omega) hG9 (Nat.le_refl _)
  by_cases h16 : l.length = 16
  · obtain ⟨g, o, rfl, hrd⟩ := hr (by omega)
    have hgn : g < n := by rw [← hn]; exact block_of_cell (hrd 0 (by omega))
    have HRD := Lib.hid (show ∀ k, k + 8 ≤ 16 → ∀ w1, Below n w w1 → Rd w1 g (o + k) (part8 l k) from fun k hk w1 hG => Rd.sub (hrd.below hG hgn) k 8 (by omega))
    have HP8 := Lib.hid (show ∀ k, k + 8 ≤ 16 → (part8 l k).length = 8 from fun k hk => part8_len l k (by omega))
    have HL := Lib.hid h16
    have hc : 16 ≤ c := by omega
    rw [h16]
    clear h16 hr hlc hrd  h24
    go_enter Try.func42, Try.ntmps42
    go_wp2_with (first
      | ((with_reducible show wpList _ _ _ _ _ w); refine alloc_row (w := w) rfl 80 rfl (.agg (Bs (List.replicate 24 0))) 24 (fun _ => by kernel_rfl) rfl ?_; intro w0 hR0 _ hG0 hs0)
      | ((with_reducible show wpList _ _ _ _ _ w0); refine alloc_row (w := w0) rfl 80 rfl (.agg (Bs (List.replicate 24 0))) 24 (fun _ => by kernel_rfl) rfl ?_; intro w1 _ hB1 hG1 hs1; have hL1 : Below n w w1 := below_none (below_none (Below.refl n w) (by omega) hG0) (by omega) hG1; have hC1 : Blk w1 (n + 1) 80 (List.replicate 24 0) := (by have e : w0.heap.size = n + 1 := (by omega); rw [e] at hB1; exact hB1))
      | ((with_reducible show wpList _ _ _ _ _ w1); refine to_array rfl 23 _ rfl (some ⟨g, (o + 8), none⟩) 8 8 _ 5 rfl (by omega) (by kernel_rfl) ?_)
      | ((with_reducible show wpList _ _ _ _ _ w1); refine load_rd rfl 23 _ rfl g (o + 8) 8 5 (part8 l 8) rfl (HRD.out 8 (by omega) _ hL1) (HP8.out 8 (by omega)) (by kernel_rfl) (by kernel_rfl) ?_)
      | ((with_reducible show wpList _ _ _ _ _ w1); refine store_mid rfl 23 _ _ rfl (n + 1) 8 80 8 (List.replicate 24 0) (part8 l 8) rfl rfl hC1 (HP8.out 8 (by omega)) (by simp [putAt_len]) (by kernel_rfl) ?_; intro w2 hC2 hG2 hs2; have hL2 : Below n w w2 := below_new hL1 (by omega) hG2 (by omega))
      | ((with_reducible show wpList _ _ _ _ _ w2); refine to_array rfl 23 _ rfl (some ⟨g, o, none⟩) 8 8 _ 5 rfl (by omega) (by kernel_rfl) ?_)
      | ((with_reducible show wpList _ _ _ _ _ w2); refine load_rd rfl 23 _ rfl g o 8 5 (part8 l 0) rfl (HRD.out 0 (by omega) _ hL2) (HP8.out 0 (by omega)) (by kernel_rfl) (by kernel_rfl) ?_)
      | ((with_reducible show wpList _ _ _ _ _ w2); refine store_mid rfl 23 _ _ rfl (n + 1) 0 80 8 (putAt (List.replicate 24 0) 8 (part8 l 8)) (part8 l 0) rfl rfl hC2 (HP8.out 0 (by omega)) (by simp [putAt_len]) (by kernel_rfl) ?_; intro w3 hC3 hG3 hs3; have hL3 : Below n w w3 := below_new hL2 (by omega) hG3 (by omega))
      | ((with_reducible show wpList _ _ _ _ _ w3); refine load_rd rfl 23 _ rfl (n + 1) 0 8 5 (part8 (putAt (putAt (List.replicate 24 0) 8 (part8 l 8)) 0 (part8 l 0)) 0) rfl (hC3.rd 0 8 (by simp [putAt_len])) (part8_len _ _ (by simp [putAt_len])) (by kernel_rfl) (by kernel_rfl) ?_; rw [sub_16 l HL.out])
      | ((with_reducible show wpList _ _ _ _ _ w3); refine store_mid rfl 23 _ _ rfl (n + 1) 16 80 8 (putAt (putAt (List.replicate 24 0) 8 (part8 l 8)) 0 (part8 l 0)) (part8 l 0) rfl rfl hC3 (HP8.out 0 (by omega)) (by simp [putAt_len]) (by kernel_rfl) ?_; intro w4 hC4 hG4 hs4; have hL4 : Below n w w4 := below_new hL3 (by omega) hG4 (by omega))
      | ((with_reducible show wpList _ _ _ _ _ w4); refine load_blkm rfl 80 _ rfl (n + 1) 80 3 23 24 (pparts l) rfl (by have h0 := hC4; rw [parts_16 l HL.out] at h0; exact h0) (pparts_len l) (by kernel_rfl) (by kernel_rfl) ?_)
      | ((with_reducible show wpList _ _ _ _ _ w4); refine store_blk rfl 80 _ _ rfl n 80 24 (pparts l) rfl rfl (by have h0 := hR0.old hG1 (by simp); rw [hn] at h0; exact (((h0.old hG2 (by simp)).old hG3 (by simp)).old hG4 (by simp))) (pparts_len l) (by kernel_rfl) ?_; intro w9 hB9 hG9 hs9))
    have ho : okParts l = true := by simp [okParts, HL.out]
    refine bodyPost_ret (results_blkm rfl _ _ n 80 3 23 24 (pparts l) rfl hB9 (pparts_len l) (by kernel_rfl) (by kernel_rfl)) rfl ⟨by rw [ho]; rfl, ?_⟩
    rw [Hn.out]
    exact below_new hL4 (by omega) hG9 (Nat.le_refl _)
  by_cases h8 : l.length = 8
  · obtain ⟨g, o, rfl, hrd⟩ := hr (by omega)
    have hgn : g < n := by rw [← hn]; exact block_of_cell (hrd 0 (by omega))
    have HRD := Lib.hid (show ∀ k, k + 8 ≤ 8 → ∀ w1, Below n w w1 → Rd w1 g (o + k) (part8 l k) from fun k hk w1 hG => Rd.sub (hrd.below hG hgn) k 8 (by omega))
    have HP8 := Lib.hid (show ∀ k, k + 8 ≤ 8 → (part8 l k).length = 8 from fun k hk => part8_len l k (by omega))
    have HL := Lib.hid h8
    have hc : 8 ≤ c := by omega
    rw [h8]
    clear h8 hr hlc hrd  h24 h16
    go_enter Try.func42, Try.ntmps42
    go_wp2_with (first
      | ((with_reducible show wpList _ _ _ _ _ w); refine alloc_row (w := w) rfl 80 rfl (.agg (Bs (List.replicate 24 0))) 24 (fun _ => by kernel_rfl) rfl ?_; intro w0 hR0 _ hG0 hs0)
      | ((with_reducible show wpList _ _ _ _ _ w0); refine alloc_row (w := w0) rfl 80 rfl (.agg (Bs (List.replicate 24 0))) 24 (fun _ => by kernel_rfl) rfl ?_; intro w1 _ hB1 hG1 hs1; have hL1 : Below n w w1 := below_none (below_none (Below.refl n w) (by omega) hG0) (by omega) hG1; have hC1 : Blk w1 (n + 1) 80 (List.replicate 24 0) := (by have e : w0.heap.size = n + 1 := (by omega); rw [e] at hB1; exact hB1))
      | ((with_reducible show wpList _ _ _ _ _ w1); refine to_array rfl 23 _ rfl (some ⟨g, o, none⟩) 8 8 _ 5 rfl (by omega) (by kernel_rfl) ?_)
      | ((with_reducible show wpList _ _ _ _ _ w1); refine load_rd rfl 23 _ rfl g o 8 5 (part8 l 0) rfl (HRD.out 0 (by omega) _ hL1) (HP8.out 0 (by omega)) (by kernel_rfl) (by kernel_rfl) ?_)
      | ((with_reducible show wpList _ _ _ _ _ w1); refine store_mid rfl 23 _ _ rfl (n + 1) 0 80 8 (List.replicate 24 0) (part8 l 0) rfl rfl hC1 (HP8.out 0 (by omega)) (by simp [putAt_len]) (by kernel_rfl) ?_; intro w2 hC2 hG2 hs2; have hL2 : Below n w w2 := below_new hL1 (by omega) hG2 (by omega))
      | ((with_reducible show wpList _ _ _ _ _ w2); refine load_blkm rfl 80 _ rfl (n + 1) 80 3 23 24 (pparts l) rfl (by have h0 := hC2; rw [parts_8 l HL.out] at h0; exact h0) (pparts_len l) (by kernel_rfl) (by kernel_rfl) ?_)
      | ((with_reducible show wpList _ _ _ _ _ w2); refine store_blk rfl 80 _ _ rfl n 80 24 (pparts l) rfl rfl (by have h0 := hR0.old hG1 (by simp); rw [hn] at h0; exact (h0.old hG2 (by simp))) (pparts_len l) (by kernel_rfl) ?_; intro w9 hB9 hG9 hs9))
    have ho : okParts l = true := by simp [okParts, HL.out]
    refine bodyPost_ret (results_blkm rfl _ _ n 80 3 23 24 (pparts l) rfl hB9 (pparts_len l) (by kernel_rfl) (by kernel_rfl)) rfl ⟨by rw [ho]; rfl, ?_⟩
    rw [Hn.out]
    exact below_new hL2 (by omega) hG9 (Nat.le_refl _)
  have ho : okParts l = false := by simp [okParts, h24, h16, h8]
  have hp := parts_no l ho
  have HO := Lib.hid ho
  rw [hp]
  have i24 : ¬ ((l.length : Int) = 24) := by omega
  have i16 : ¬ ((l.length : Int) = 16) := by omega
  have i8 : ¬ ((l.length : Int) = 8) := by omega
  obtain ⟨m, hm⟩ : ∃ m, l.length = m := ⟨_, rfl⟩
  rw [hm] at i24 i16 i8 ⊢
  clear h24 h16 h8 ho hp hr hlc hm
  go_enter Try.func42, Try.ntmps42
  go_wp2_with (first
      | ((with_reducible show wpList _ _ _ _ _ w); refine alloc_row (w := w) rfl 80 rfl (.agg (Bs (List.replicate 24 0))) 24 (fun _ => by kernel_rfl) rfl ?_; intro w0 hR0 _ hG0 hs0)
      | ((with_reducible show wpList _ _ _ _ _ w0); refine alloc_row (w := w0) rfl 80 rfl (.agg (Bs (List.replicate 24 0))) 24 (fun _ => by kernel_rfl) rfl ?_; intro w1 _ hB1 hG1 hs1; have hL1 : Below n w w1 := below_none (below_none (Below.refl n w) (by omega) hG0) (by omega) hG1; have hC1 : Blk w1 (n + 1) 80 (List.replicate 24 0) := (by have e : w0.heap.size = n + 1 := (by omega); rw [e] at hB1; exact hB1))
      | ((with_reducible show wpList _ _ _ _ _ w1); refine load_blkm rfl 80 _ rfl (n + 1) 80 3 23 24 (List.replicate 24 0) rfl hC1 rfl (by kernel_rfl) (by kernel_rfl) ?_)
      | ((with_reducible show wpList _ _ _ _ _ w1); refine store_blk rfl 80 _ _ rfl n 80 24 (List.replicate 24 0) rfl rfl (by have h0 := hR0.old hG1 (by simp); rw [hn] at h0; exact h0) rfl (by kernel_rfl) ?_; intro w9 hB9 hG9 hs9))
  refine bodyPost_ret (results_blkm rfl _ _ n 80 3 23 24 (List.replicate 24 0) rfl hB9 rfl (by kernel_rfl) (by kernel_rfl)) rfl ⟨by rw [HO.out]; rfl, ?_⟩
  rw [Hn.out]
  exact below_new hL1 (by omega) hG9 (Nat.le_refl _)
end Go.Proofs.Ytjbdhnmkeaogcaa
