/- TDES: a key's parts. -/
import Derived.Test.YtbbfjlnkhenbiaaDoorKB1
import Derived.Test.YtbbfjlnkhenbiaaDoorKB0
import Derived.IntWalk
set_option linter.unusedVariables false
set_option linter.unusedSimpArgs false
namespace Lk
open Go Go.RowKit
/-- a key's three parts -/
def pparts (l : List UInt8) : List UInt8 :=
  if l.length = 24 then l else if l.length = 16 then l ++ l.take 8 else if l.length = 8 then l ++ List.replicate 16 0 else List.replicate 24 0
def okParts (l : List UInt8) : Bool := l.length == 24 || l.length == 16 || l.length == 8
theorem pparts_len (l : List UInt8) : (pparts l).length = 24 := by
  unfold pparts
  split
  · assumption
  · split
    · simp; omega
    · split
      · simp; omega
      · simp
theorem Rd.sub {w : World} {g o : Nat} {l : List UInt8} (h : Rd w g o l) (k n : Nat) (hn : k + n ≤ l.length) : Rd w g (o + k) ((l.drop k).take n) := by
  intro j hj
  rw [List.length_take, List.length_drop] at hj
  rw [Nat.add_assoc, h (k + j) (by omega)]
  have : g8 l (k + j) = g8 ((l.drop k).take n) j := by
    unfold g8
    rw [List.getD_eq_getElem?_getD, List.getD_eq_getElem?_getD, List.getElem?_take_of_lt (by omega), List.getElem?_drop]
  rw [this]
def part8 (l : List UInt8) (k : Nat) : List UInt8 := (l.drop k).take 8
theorem part8_len (l : List UInt8) (k : Nat) (h : k + 8 ≤ l.length) : (part8 l k).length = 8 := by unfold part8; simp; omega
theorem putAt_mid (A B C D : List UInt8) (k : Nat) (hk : k = A.length) (h : D.length = B.length) : putAt (A ++ (B ++ C)) k D = A ++ (D ++ C) := by
  subst hk
  rw [putAt_eq _ _ _ (by simp; omega), List.take_left, List.append_assoc]
  congr 2
  rw [h, ← List.append_assoc, List.drop_append_of_le_length (by simp)]
  simp
def z8 : List UInt8 := List.replicate 8 0
theorem z24 : List.replicate 24 (0 : UInt8) = z8 ++ (z8 ++ (z8 ++ [])) := by decide
theorem put16 (d : List UInt8) (h : d.length = 8) (x y : List UInt8) (hx : x.length = 8) (hy : y.length = 8) (z : List UInt8) (hz : z.length = 8) : putAt (x ++ (y ++ (z ++ []))) 16 d = x ++ (y ++ (d ++ [])) := by
  have := putAt_mid (x ++ y) z [] d 16 (by simp; omega) (by omega)
  simpa [List.append_assoc] using this
theorem put8 (d : List UInt8) (h : d.length = 8) (x y : List UInt8) (hx : x.length = 8) (hy : y.length = 8) (z : List UInt8) : putAt (x ++ (y ++ z)) 8 d = x ++ (d ++ z) :=
  putAt_mid x y z d 8 (by omega) (by omega)
theorem put0 (d : List UInt8) (h : d.length = 8) (x : List UInt8) (hx : x.length = 8) (z : List UInt8) : putAt (x ++ z) 0 d = d ++ z :=
  putAt_mid [] x z d 0 rfl (by omega)
theorem z8_len : z8.length = 8 := rfl
theorem part8_0 (l : List UInt8) : part8 l 0 = l.take 8 := by unfold part8; rw [List.drop_zero]
theorem parts_24 (l : List UInt8) (h : l.length = 24) : putAt (putAt (putAt (List.replicate 24 0) 16 (part8 l 16)) 8 (part8 l 8)) 0 (part8 l 0) = pparts l := by
  have h0 := part8_len l 0 (by omega)
  have h8 := part8_len l 8 (by omega)
  have h16 := part8_len l 16 (by omega)
  rw [z24, put16 _ h16 _ _ z8_len z8_len _ z8_len, put8 _ h8 _ _ z8_len z8_len, put0 _ h0 _ z8_len]
  unfold pparts
  rw [if_pos h]
  unfold part8
  have e : List.take 8 (List.drop 16 l) = List.drop 16 l := List.take_of_length_le (by simp; omega)
  have e2 : List.drop 16 l = List.drop 8 (List.drop 8 l) := by rw [List.drop_drop]
  rw [e, e2, List.append_nil, List.drop_zero, List.take_append_drop, List.take_append_drop]
theorem parts_16 (l : List UInt8) (h : l.length = 16) : putAt (putAt (putAt (List.replicate 24 0) 8 (part8 l 8)) 0 (part8 l 0)) 16 (part8 l 0) = pparts l := by
  have h0 := part8_len l 0 (by omega)
  have h8 := part8_len l 8 (by omega)
  rw [z24, put8 _ h8 _ _ z8_len z8_len, put0 _ h0 _ z8_len, put16 _ h0 _ _ h0 h8 _ z8_len]
  unfold pparts
  rw [if_neg (by omega), if_pos h, part8_0, List.append_nil]
  unfold part8
  have e : List.take 8 (List.drop 8 l) = List.drop 8 l := List.take_of_length_le (by simp; omega)
  rw [e, ← List.append_assoc, List.take_append_drop]
theorem sub_16 (l : List UInt8) (h : l.length = 16) : part8 (putAt (putAt (List.replicate 24 0) 8 (part8 l 8)) 0 (part8 l 0)) 0 = part8 l 0 := by
  have h0 := part8_len l 0 (by omega)
  have h8 := part8_len l 8 (by omega)
  rw [z24, put8 _ h8 _ _ z8_len z8_len, put0 _ h0 _ z8_len, part8_0, List.take_left' h0]
theorem parts_8 (l : List UInt8) (h : l.length = 8) : putAt (List.replicate 24 0) 0 (part8 l 0) = pparts l := by
  have h0 := part8_len l 0 (by omega)
  rw [z24, put0 _ h0 _ z8_len]
  unfold pparts
  rw [if_neg (by omega), if_neg (by omega), if_pos h, part8_0, List.take_of_length_le (by omega)]
  rfl
theorem parts_no (l : List UInt8) (h : okParts l = false) : pparts l = List.replicate 24 0 := by
  simp [okParts] at h
  unfold pparts
  rw [if_neg h.1.1, if_neg h.1.2, if_neg h.2]
end Lk
namespace Go.Proofs.YtbbfjlnkhenbiaaDoor
open Go.RowKit Lk
set_option maxHeartbeats 1600000 in
set_option maxRecDepth 100000 in
theorem parts_any (v : Value) (l : List UInt8) (w : World) (h : SlB w v l) : Calls Tryd.prog 52 #[v] w fun e w' => e = .returned (.tuple #[.agg (Bs (pparts l)), .bool (okParts l)]) ∧ Below w.heap.size w w' := by
  obtain ⟨n, hn⟩ : ∃ n, w.heap.size = n := ⟨_, rfl⟩
  have Hn := Lib.hid hn
  obtain ⟨A, c, rfl, hA, hlc, hcm, hr⟩ := h
  by_cases h24 : l.length = 24
  · obtain ⟨g, o, rfl, hrd⟩ := hr (by omega)
    have hgn : g < n := by rw [← hn]; exact block_of_cell (hrd 0 (by omega))
    have HRD := Lib.hid (show ∀ k, k + 8 ≤ 24 → ∀ w1, Below n w w1 → Rd w1 g (o + k) (part8 l k) from fun k hk w1 hG => Rd.sub (hrd.below hG hgn) k 8 (by omega))
    have HP8 := Lib.hid (show ∀ k, k + 8 ≤ 24 → (part8 l k).length = 8 from fun k hk => part8_len l k (by omega))
    have HL := Lib.hid h24
    have hc : 24 ≤ c := by omega
    rw [h24]
    clear h24 hr hlc hrd 
    go_enter Tryd.func52, Tryd.ntmps52
    go_wp2_with (first
      | ((with_reducible show wpList _ _ _ _ _ w); refine alloc_row (w := w) rfl 108 rfl (.agg (Bs (List.replicate 24 0))) 24 (fun _ => by kernel_rfl) rfl ?_; intro w0 hR0 _ hG0 hs0)
      | ((with_reducible show wpList _ _ _ _ _ w0); refine alloc_row (w := w0) rfl 108 rfl (.agg (Bs (List.replicate 24 0))) 24 (fun _ => by kernel_rfl) rfl ?_; intro w1 _ hB1 hG1 hs1; have hL1 : Below n w w1 := below_none (below_none (Below.refl n w) (by omega) hG0) (by omega) hG1; have hC1 : Blk w1 (n + 1) 108 (List.replicate 24 0) := (by have e : w0.heap.size = n + 1 := (by omega); rw [e] at hB1; exact hB1))
      | ((with_reducible show wpList _ _ _ _ _ w1); refine to_array rfl 75 _ rfl (some ⟨g, (o + 16), none⟩) 8 8 _ 5 rfl (by omega) (by kernel_rfl) ?_)
      | ((with_reducible show wpList _ _ _ _ _ w1); refine load_rd rfl 75 _ rfl g (o + 16) 8 5 (part8 l 16) rfl (HRD.out 16 (by omega) _ hL1) (HP8.out 16 (by omega)) (by kernel_rfl) (by kernel_rfl) ?_)
      | ((with_reducible show wpList _ _ _ _ _ w1); refine store_mid rfl 75 _ _ rfl (n + 1) 16 108 8 (List.replicate 24 0) (part8 l 16) rfl rfl hC1 (HP8.out 16 (by omega)) (by simp [putAt_len]) (by kernel_rfl) ?_; intro w2 hC2 hG2 hs2; have hL2 : Below n w w2 := below_new hL1 (by omega) hG2 (by omega))
      | ((with_reducible show wpList _ _ _ _ _ w2); refine to_array rfl 75 _ rfl (some ⟨g, (o + 8), none⟩) 8 8 _ 5 rfl (by omega) (by kernel_rfl) ?_)
      | ((with_reducible show wpList _ _ _ _ _ w2); refine load_rd rfl 75 _ rfl g (o + 8) 8 5 (part8 l 8) rfl (HRD.out 8 (by omega) _ hL2) (HP8.out 8 (by omega)) (by kernel_rfl) (by kernel_rfl) ?_)
      | ((with_reducible show wpList _ _ _ _ _ w2); refine store_mid rfl 75 _ _ rfl (n + 1) 8 108 8 (putAt (List.replicate 24 0) 16 (part8 l 16)) (part8 l 8) rfl rfl hC2 (HP8.out 8 (by omega)) (by simp [putAt_len]) (by kernel_rfl) ?_; intro w3 hC3 hG3 hs3; have hL3 : Below n w w3 := below_new hL2 (by omega) hG3 (by omega))
      | ((with_reducible show wpList _ _ _ _ _ w3); refine to_array rfl 75 _ rfl (some ⟨g, o, none⟩) 8 8 _ 5 rfl (by omega) (by kernel_rfl) ?_)
      | ((with_reducible show wpList _ _ _ _ _ w3); refine load_rd rfl 75 _ rfl g o 8 5 (part8 l 0) rfl (HRD.out 0 (by omega) _ hL3) (HP8.out 0 (by omega)) (by kernel_rfl) (by kernel_rfl) ?_)
      | ((with_reducible show wpList _ _ _ _ _ w3); refine store_mid rfl 75 _ _ rfl (n + 1) 0 108 8 (putAt (putAt (List.replicate 24 0) 16 (part8 l 16)) 8 (part8 l 8)) (part8 l 0) rfl rfl hC3 (HP8.out 0 (by omega)) (by simp [putAt_len]) (by kernel_rfl) ?_; intro w4 hC4 hG4 hs4; have hL4 : Below n w w4 := below_new hL3 (by omega) hG4 (by omega))
      | ((with_reducible show wpList _ _ _ _ _ w4); refine load_blkm rfl 108 _ rfl (n + 1) 108 3 75 24 (pparts l) rfl (by have h0 := hC4; rw [parts_24 l HL.out] at h0; exact h0) (pparts_len l) (by kernel_rfl) (by kernel_rfl) ?_)
      | ((with_reducible show wpList _ _ _ _ _ w4); refine store_blk rfl 108 _ _ rfl n 108 24 (pparts l) rfl rfl (by have h0 := hR0.old hG1 (by simp); rw [hn] at h0; exact (((h0.old hG2 (by simp)).old hG3 (by simp)).old hG4 (by simp))) (pparts_len l) (by kernel_rfl) ?_; intro w9 hB9 hG9 hs9))
    have ho : okParts l = true := by simp [okParts, HL.out]
    refine bodyPost_ret (results_blkm rfl _ _ n 108 3 75 24 (pparts l) rfl hB9 (pparts_len l) (by kernel_rfl) (by kernel_rfl)) rfl ⟨by rw [ho]; rfl, ?_⟩
    rw [Hn.out]
    exact below_new hL4 (by omega) hG9 (Nat.le_refl _)
  by_cases h16 : l.length = 16
  · obtain ⟨g, o, rfl, hrd⟩ := hr (by omega)
    have hgn : g < n := by rw [← hn]; exact block_of_cell (hrd 0 (by omega))
    have HRD := Lib.hid (show ∀ k, k + 8 ≤ 16 → ∀ w1, Below n w w1 → Rd w1 g (o + k) (part8 l k) from fun k hk w1 hG => Rd.sub (hrd.below hG hgn) k 8 (by omega))
    have HP8 := Lib.hid (show ∀ k, k + 8 ≤ 16 → (part8 l k).length = 8 from fun k hk => part8_len l k (by omega))
    have HL := Lib.hid h16
    have hc : 16 ≤ c := by omega
    rw [h16]
    clear h16 hr hlc hrd  h24
    go_enter Tryd.func52, Tryd.ntmps52
    go_wp2_with (first
      | ((with_reducible show wpList _ _ _ _ _ w); refine alloc_row (w := w) rfl 108 rfl (.agg (Bs (List.replicate 24 0))) 24 (fun _ => by kernel_rfl) rfl ?_; intro w0 hR0 _ hG0 hs0)
      | ((with_reducible show wpList _ _ _ _ _ w0); refine alloc_row (w := w0) rfl 108 rfl (.agg (Bs (List.replicate 24 0))) 24 (fun _ => by kernel_rfl) rfl ?_; intro w1 _ hB1 hG1 hs1; have hL1 : Below n w w1 := below_none (below_none (Below.refl n w) (by omega) hG0) (by omega) hG1; have hC1 : Blk w1 (n + 1) 108 (List.replicate 24 0) := (by have e : w0.heap.size = n + 1 := (by omega); rw [e] at hB1; exact hB1))
      | ((with_reducible show wpList _ _ _ _ _ w1); refine to_array rfl 75 _ rfl (some ⟨g, (o + 8), none⟩) 8 8 _ 5 rfl (by omega) (by kernel_rfl) ?_)
      | ((with_reducible show wpList _ _ _ _ _ w1); refine load_rd rfl 75 _ rfl g (o + 8) 8 5 (part8 l 8) rfl (HRD.out 8 (by omega) _ hL1) (HP8.out 8 (by omega)) (by kernel_rfl) (by kernel_rfl) ?_)
      | ((with_reducible show wpList _ _ _ _ _ w1); refine store_mid rfl 75 _ _ rfl (n + 1) 8 108 8 (List.replicate 24 0) (part8 l 8) rfl rfl hC1 (HP8.out 8 (by omega)) (by simp [putAt_len]) (by kernel_rfl) ?_; intro w2 hC2 hG2 hs2; have hL2 : Below n w w2 := below_new hL1 (by omega) hG2 (by omega))
      | ((with_reducible show wpList _ _ _ _ _ w2); refine to_array rfl 75 _ rfl (some ⟨g, o, none⟩) 8 8 _ 5 rfl (by omega) (by kernel_rfl) ?_)
      | ((with_reducible show wpList _ _ _ _ _ w2); refine load_rd rfl 75 _ rfl g o 8 5 (part8 l 0) rfl (HRD.out 0 (by omega) _ hL2) (HP8.out 0 (by omega)) (by kernel_rfl) (by kernel_rfl) ?_)
      | ((with_reducible show wpList _ _ _ _ _ w2); refine store_mid rfl 75 _ _ rfl (n + 1) 0 108 8 (putAt (List.replicate 24 0) 8 (part8 l 8)) (part8 l 0) rfl rfl hC2 (HP8.out 0 (by omega)) (by simp [putAt_len]) (by kernel_rfl) ?_; intro w3 hC3 hG3 hs3; have hL3 : Below n w w3 := below_new hL2 (by omega) hG3 (by omega))
      | ((with_reducible show wpList _ _ _ _ _ w3); refine load_rd rfl 75 _ rfl (n + 1) 0 8 5 (part8 (putAt (putAt (List.replicate 24 0) 8 (part8 l 8)) 0 (part8 l 0)) 0) rfl (hC3.rd 0 8 (by simp [putAt_len])) (part8_len _ _ (by simp [putAt_len])) (by kernel_rfl) (by kernel_rfl) ?_; rw [sub_16 l HL.out])
      | ((with_reducible show wpList _ _ _ _ _ w3); refine store_mid rfl 75 _ _ rfl (n + 1) 16 108 8 (putAt (putAt (List.replicate 24 0) 8 (part8 l 8)) 0 (part8 l 0)) (part8 l 0) rfl rfl hC3 (HP8.out 0 (by omega)) (by simp [putAt_len]) (by kernel_rfl) ?_; intro w4 hC4 hG4 hs4; have hL4 : Below n w w4 := below_new hL3 (by omega) hG4 (by omega))
      | ((with_reducible show wpList _ _ _ _ _ w4); refine load_blkm rfl 108 _ rfl (n + 1) 108 3 75 24 (pparts l) rfl (by have h0 := hC4; rw [parts_16 l HL.out] at h0; exact h0) (pparts_len l) (by kernel_rfl) (by kernel_rfl) ?_)
      | ((with_reducible show wpList _ _ _ _ _ w4); refine store_blk rfl 108 _ _ rfl n 108 24 (pparts l) rfl rfl (by have h0 := hR0.old hG1 (by simp); rw [hn] at h0; exact (((h0.old hG2 (by simp)).old hG3 (by simp)).old hG4 (by simp))) (pparts_len l) (by kernel_rfl) ?_; intro w9 hB9 hG9 hs9))
    have ho : okParts l = true := by simp [okParts, HL.out]
    refine bodyPost_ret (results_blkm rfl _ _ n 108 3 75 24 (pparts l) rfl hB9 (pparts_len l) (by kernel_rfl) (by kernel_rfl)) rfl ⟨by rw [ho]; rfl, ?_⟩
    rw [Hn.out]
    exact below_new hL4 (by omega) hG9 (Nat.le_refl _)
  by_cases h8 : l.length = 8
  · obtain ⟨g, o, rfl, hrd⟩ := hr (by omega)
    have hgn : g < n := by rw [← hn]; exact block_of_cell (hrd 0 (by omega))
    have HRD := Lib.hid (show ∀ k, k + 8 ≤ 8 → ∀ w1, Below n w w1 → Rd w1 g (o + k) (part8 l k) from fun k hk w1 hG => Rd.sub (hrd.below hG hgn) k 8 (by omega))
    have HP8 := Lib.hid (show ∀ k, k + 8 ≤ 8 → (part8 l k).length = 8 from fun k hk => part8_len l k (by omega))
    have HL := Lib.hid h8
    have hc : 8 ≤ c := by omega
    rw [h8]
    clear h8 hr hlc hrd  h24 h16
    go_enter Tryd.func52, Tryd.ntmps52
    go_wp2_with (first
      | ((with_reducible show wpList _ _ _ _ _ w); refine alloc_row (w := w) rfl 108 rfl (.agg (Bs (List.replicate 24 0))) 24 (fun _ => by kernel_rfl) rfl ?_; intro w0 hR0 _ hG0 hs0)
      | ((with_reducible show wpList _ _ _ _ _ w0); refine alloc_row (w := w0) rfl 108 rfl (.agg (Bs (List.replicate 24 0))) 24 (fun _ => by kernel_rfl) rfl ?_; intro w1 _ hB1 hG1 hs1; have hL1 : Below n w w1 := below_none (below_none (Below.refl n w) (by omega) hG0) (by omega) hG1; have hC1 : Blk w1 (n + 1) 108 (List.replicate 24 0) := (by have e : w0.heap.size = n + 1 := (by omega); rw [e] at hB1; exact hB1))
      | ((with_reducible show wpList _ _ _ _ _ w1); refine to_array rfl 75 _ rfl (some ⟨g, o, none⟩) 8 8 _ 5 rfl (by omega) (by kernel_rfl) ?_)
      | ((with_reducible show wpList _ _ _ _ _ w1); refine load_rd rfl 75 _ rfl g o 8 5 (part8 l 0) rfl (HRD.out 0 (by omega) _ hL1) (HP8.out 0 (by omega)) (by kernel_rfl) (by kernel_rfl) ?_)
      | ((with_reducible show wpList _ _ _ _ _ w1); refine store_mid rfl 75 _ _ rfl (n + 1) 0 108 8 (List.replicate 24 0) (part8 l 0) rfl rfl hC1 (HP8.out 0 (by omega)) (by simp [putAt_len]) (by kernel_rfl) ?_; intro w2 hC2 hG2 hs2; have hL2 : Below n w w2 := below_new hL1 (by omega) hG2 (by omega))
      | ((with_reducible show wpList _ _ _ _ _ w2); refine load_blkm rfl 108 _ rfl (n + 1) 108 3 75 24 (pparts l) rfl (by have h0 := hC2; rw [parts_8 l HL.out] at h0; exact h0) (pparts_len l) (by kernel_rfl) (by kernel_rfl) ?_)
      | ((with_reducible show wpList _ _ _ _ _ w2); refine store_blk rfl 108 _ _ rfl n 108 24 (pparts l) rfl rfl (by have h0 := hR0.old hG1 (by simp); rw [hn] at h0; exact (h0.old hG2 (by simp))) (pparts_len l) (by kernel_rfl) ?_; intro w9 hB9 hG9 hs9))
    have ho : okParts l = true := by simp [okParts, HL.out]
    refine bodyPost_ret (results_blkm rfl _ _ n 108 3 75 24 (pparts l) rfl hB9 (pparts_len l) (by kernel_rfl) (by kernel_rfl)) rfl ⟨by rw [ho]; rfl, ?_⟩
    rw [Hn.out]
    exact below_new hL2 (by omega) hG9 (Nat.le_refl _)
  have ho : okParts l = false := by simp [okParts, h24, h16, h8]
  have hp := parts_no l ho
  have HO := Lib.hid ho
  rw [hp]
  have i24 : ¬ ((l.length : Int) = 24) := by omega
  have i16 : ¬ ((l.length : Int) = 16) := by omega
  have i8 : ¬ ((l.length : Int) = 8) := by omega
  obtain ⟨m, hm⟩ : ∃ m, l.length = m := ⟨_, rfl⟩
  rw [hm] at i24 i16 i8 ⊢
  clear h24 h16 h8 ho hp hr hlc hm
  go_enter Tryd.func52, Tryd.ntmps52
  go_wp2_with (first
      | ((with_reducible show wpList _ _ _ _ _ w); refine alloc_row (w := w) rfl 108 rfl (.agg (Bs (List.replicate 24 0))) 24 (fun _ => by kernel_rfl) rfl ?_; intro w0 hR0 _ hG0 hs0)
      | ((with_reducible show wpList _ _ _ _ _ w0); refine alloc_row (w := w0) rfl 108 rfl (.agg (Bs (List.replicate 24 0))) 24 (fun _ => by kernel_rfl) rfl ?_; intro w1 _ hB1 hG1 hs1; have hL1 : Below n w w1 := below_none (below_none (Below.refl n w) (by omega) hG0) (by omega) hG1; have hC1 : Blk w1 (n + 1) 108 (List.replicate 24 0) := (by have e : w0.heap.size = n + 1 := (by omega); rw [e] at hB1; exact hB1))
      | ((with_reducible show wpList _ _ _ _ _ w1); refine load_blkm rfl 108 _ rfl (n + 1) 108 3 75 24 (List.replicate 24 0) rfl hC1 rfl (by kernel_rfl) (by kernel_rfl) ?_)
      | ((with_reducible show wpList _ _ _ _ _ w1); refine store_blk rfl 108 _ _ rfl n 108 24 (List.replicate 24 0) rfl rfl (by have h0 := hR0.old hG1 (by simp); rw [hn] at h0; exact h0) rfl (by kernel_rfl) ?_; intro w9 hB9 hG9 hs9))
  refine bodyPost_ret (results_blkm rfl _ _ n 108 3 75 24 (List.replicate 24 0) rfl hB9 rfl (by kernel_rfl) (by kernel_rfl)) rfl ⟨by rw [HO.out]; rfl, ?_⟩
  rw [Hn.out]
  exact below_new hL1 (by omega) hG9 (Nat.le_refl _)
end Go.Proofs.YtbbfjlnkhenbiaaDoor
set_option linter.unusedVariables false
set_option linter.unusedSimpArgs false
namespace Lk
open Go Go.RowKit
section
variable {P : Program} {ops : Array Oper} {C : World → Prop} {Q : Act → Prop} {a : Act} {o : Oper} {rest : List Oper}
/-- an operation that yields the same value in whatever world, and leaves it as it is -/
theorem quiet_val (hw : Region.wanted o (yielded ops a.tmps) = true) (u : Value) (h : ∀ w, (execOp a.eval o).run P w = .ok (.value u) w) (hk : wpQuiet P ops C Q rest (a.put o.dst u)) : wpQuiet P ops C Q (o :: rest) a :=
  wpQuiet_step fun K hK => by
    rw [if_pos hw]
    exact ⟨u, fun w _ => by unfold Oper.quietAt; rw [h w]; exact ⟨rfl, rfl⟩, hK _ hk⟩
theorem quiet_enter (hw : Region.wanted o (yielded ops a.tmps) = true) (f : FuncId) (args : Array Value) (v : Value) (h : ∀ w, (execOp a.eval o).run P w = .ok (.enter f args) w)
    (hc : ∀ w, C w → Calls P f args w fun e w' => e = .returned v ∧ C w') (hk : wpQuiet P ops C Q rest (a.put o.dst v)) : wpQuiet P ops C Q (o :: rest) a :=
  wpQuiet_step fun K hK => by
    rw [if_pos hw]
    exact ⟨v, fun w hw => by unfold Oper.quietAt; rw [h w]; exact ⟨rfl, hc w hw⟩, hK _ hk⟩
theorem quiet_load (hw : Region.wanted o (yielded ops a.tmps) = true) (ty : TypeId) (x : Operand) (ho : o.op = .load ty x) (g k n e : Nat) (l : List UInt8) (hx : a.eval x = .pointer (some ⟨g, k, none⟩)) (hB : ∀ w, C w → Rd w g k l) (hl : l.length = n)
    (hu : P.underlying ty = some (.array n e)) (hi : (P.info? ty).map (·.size) = some n) (hk : wpQuiet P ops C Q rest (a.put o.dst (.agg (Bs l)))) : wpQuiet P ops C Q (o :: rest) a :=
  wpQuiet_step fun K hK => by
    rw [if_pos hw]
    refine ⟨.agg (Bs l), fun w hw => ?_, hK _ hk⟩
    unfold Oper.quietAt execOp
    simp only [ho, hx, Instr.loadAt, Instr.sureAddr, Sem.run_bind, Sem.run_pure, Result.andThen_ok, run_loadVar_mid w g k ty (Bl l) (.array n e) (rangeAt_rd (hB w hw)) hu rfl (by rw [Bl_len, hl, hi])]
    exact ⟨rfl, rfl⟩
end
theorem below_drew (w : World) : Below w.heap.size w w.drew := ⟨rfl, rfl, rfl, Nat.le_refl _, fun _ _ => rfl⟩
/-- TDES of a block, the three parts being these -/
def triple3 (k0 k1 k2 b : List UInt8) (back : Bool) : List UInt8 := dblock k2 (dblock k1 (dblock k0 b back) (!back)) back
def ptriple (key b : List UInt8) (back : Bool) : List UInt8 :=
  if key.length = 8 then dblock (part8 (pparts key) 0) b back
  else bif back then triple3 (part8 (pparts key) 16) (part8 (pparts key) 8) (part8 (pparts key) 0) b true
  else triple3 (part8 (pparts key) 0) (part8 (pparts key) 8) (part8 (pparts key) 16) b false
theorem Row.below {w w1 : World} {g T n B : Nat} (h : Row w g T n) (hG : Below B w w1) (hg : g < B) : Row w1 g T n := by
  obtain ⟨old, h1, h2⟩ := h
  exact ⟨old, by rw [hG.block g hg]; exact h1, h2⟩
theorem split24 (p : List UInt8) (h : p.length = 24) : p = part8 p 0 ++ (part8 p 8 ++ (part8 p 16 ++ [])) := by
  unfold part8
  have e : List.take 8 (List.drop 16 p) = List.drop 16 p := List.take_of_length_le (by simp; omega)
  have e2 : List.drop 16 p = List.drop 8 (List.drop 8 p) := by rw [List.drop_drop]
  rw [e, e2, List.append_nil, List.drop_zero, List.take_append_drop, List.take_append_drop]
theorem sub3 (x y z : List UInt8) (hx : x.length = 8) (hy : y.length = 8) (hz : z.length = 8) : part8 (x ++ (y ++ (z ++ []))) 0 = x ∧ part8 (x ++ (y ++ (z ++ []))) 8 = y ∧ part8 (x ++ (y ++ (z ++ []))) 16 = z := by
  refine ⟨?_, ?_, ?_⟩
  · rw [part8_0, List.take_left' hx]
  · unfold part8; rw [List.drop_left' hx, List.take_left' hy]
  · unfold part8
    have : (16 : Nat) = 8 + 8 := rfl
    rw [this, ← List.drop_drop, List.drop_left' hx, List.drop_left' hy, List.append_nil, List.take_of_length_le (by omega)]
theorem swap24 (p : List UInt8) (h : p.length = 24) : putAt (putAt p 0 (part8 p 16)) 16 (part8 p 0) = part8 p 16 ++ (part8 p 8 ++ (part8 p 0 ++ [])) := by
  have h0 := part8_len p 0 (by omega)
  have h8 := part8_len p 8 (by omega)
  have h16 := part8_len p 16 (by omega)
  obtain ⟨x, ex⟩ : ∃ x, part8 p 0 = x := ⟨_, rfl⟩
  obtain ⟨y, ey⟩ : ∃ y, part8 p 8 = y := ⟨_, rfl⟩
  obtain ⟨z, ez⟩ : ∃ z, part8 p 16 = z := ⟨_, rfl⟩
  have e := split24 p h
  rw [ex, ey, ez] at e
  rw [ex] at h0; rw [ey] at h8; rw [ez] at h16
  rw [ex, ey, ez, e, put0 _ h16 _ h0, put16 _ h0 _ _ h16 h8 _ h16]
theorem dblock_len (k b : List UInt8) (back : Bool) : (dblock k b back).length = 8 := pbytes_len _
end Lk
namespace Go.Proofs.YtbbfjlnkhenbiaaDoor
open Go.RowKit Lk
theorem block_in (key b : List UInt8) (back : Bool) (hk : key.length = 8) (hb : b.length = 8) (N : Nat) (W : World) : ∀ w, Below N W w → N ≤ W.heap.size → Calls Tryd.prog 53 #[.agg (Bs key), .agg (Bs b), .bool back] w fun e w' => e = .returned (.agg (Bs (dblock key b back))) ∧ Below N W w' :=
  fun w hB hN => (Block_any key b back hk hb w).mono fun _ _ ⟨h1, h2⟩ => ⟨h1, below_more hB h2 (Nat.le_trans hN hB.size)⟩
set_option maxHeartbeats 1600000 in
set_option maxRecDepth 100000 in
theorem Triple_any (v : Value) (key b : List UInt8) (back : Bool) (w : World) (hs : SlB w v key) (hb : b.length = 8) : Calls Tryd.prog 33 #[v, .agg (Bs b), .bool back] w fun e w' =>
    e = .returned (bif okParts key then .tuple #[.agg (Bs (ptriple key b back)), .nilIface] else .tuple #[.agg (Bs (List.replicate 8 0)), .iface 68 (.int .i64 2)]) ∧ Below w.heap.size w w' := by
  obtain ⟨n, hn⟩ : ∃ n, w.heap.size = n := ⟨_, rfl⟩
  have Hn := Lib.hid hn
  have HSL := Lib.hid hs
  have HNB := Lib.hid hb
  have hP := fun w h => parts_any v key w h
  obtain ⟨ok, eok⟩ : ∃ ok, okParts key = ok := ⟨_, rfl⟩
  obtain ⟨p, ep⟩ : ∃ p, pparts key = p := ⟨_, rfl⟩
  have hpl := pparts_len key
  simp only [eok, ep] at hP
  rw [ep] at hpl
  have HP := Lib.hid hP
  have HPL := Lib.hid hpl
  have EP := Lib.hid ep
  have EOK := Lib.hid eok
  obtain ⟨A, c, rfl, hA, hlc, hcm, hr⟩ := hs
  rw [eok]
  clear hP eok ep hr hpl hb
  cases ok
  · go_enter Tryd.func33, Tryd.ntmps33
    go_wp2_with (first
      | ((with_reducible show wpList _ _ _ _ _ w); refine box_blk (w := w) rfl 75 _ rfl b rfl ?_; intro w0 hB0 hG0 hs0)
      | ((with_reducible show wpList _ _ _ _ _ w0); refine alloc_row (w := w0) rfl 75 rfl (.agg (Bs (List.replicate 8 0))) 8 (fun _ => by kernel_rfl) rfl ?_; intro w1 hR1 _ hG1 hs1)
      | (go_at_call 52; refine (HP.out _ ((HSL.out.old hG0 (Classical.em _)).old hG1 (Classical.em _))).mono ?_; rintro e w2 ⟨rfl, hG2⟩)
      | ((with_reducible show wpList _ _ _ _ _ w2); refine alloc_row (w := w2) rfl 108 rfl (.agg (Bs (List.replicate 24 0))) 24 (fun _ => by kernel_rfl) rfl ?_; intro w3 hR3 _ hG3 hs3)
      | ((with_reducible show wpList _ _ _ _ _ w3); refine store_blk (w := w3) rfl 108 _ _ rfl w2.heap.size 108 24 p rfl rfl hR3 HPL.out (by kernel_rfl) ?_; intro w4 hB4 hG4 hs4)
      | (refine wpList_buildTo rfl 75 _ rfl (some 18) rfl (Bs (List.replicate 8 0)) (by kernel_rfl) ?_)
      | ((with_reducible show wpList _ _ _ _ _ w4); refine store_blk (w := w4) rfl 75 _ _ rfl (n + 1) 75 8 (List.replicate 8 0) rfl rfl (by
          have e0 : w0.heap.size = n + 1 := by omega
          have h2s := hG2.size
          rw [e0] at hR1
          exact ((hR1.below hG2 (by omega)).old hG3 (by simp)).old hG4 (by simp; omega)) rfl (by kernel_rfl) ?_; intro w5 hB5 hG5 hs5))
    have e0 : w0.heap.size = n + 1 := by omega
    have h2s := hG2.size
    have hRn : Row w4 (n + 1) 75 8 := by rw [e0] at hR1; exact ((hR1.below hG2 (by omega)).old hG3 (by simp)).old hG4 (by simp; omega)
    have hBb : Blk w4 n 75 b := by rw [hn] at hB0; exact (((hB0.old hG1 (by simp)).below hG2 (by omega)).old hG3 (by simp)).old hG4 (by simp; omega)
    have hL4 : Below n w w4 := below_new (below_none (below_more (below_none (below_none (Below.refl n w) (by omega) hG0) (by omega) hG1) hG2 (by omega)) (by omega) hG3) (by omega) hG4 (by omega)
    refine bodyPost_ret (results_blk rfl _ _ (n + 1) 75 8 5 (List.replicate 8 0) rfl hB5 rfl (by kernel_rfl) (by kernel_rfl)) rfl ⟨rfl, ?_⟩
    rw [Hn.out]
    exact below_new hL4 (by omega) hG5 (by omega)
  by_cases h8 : key.length = 8
  · have e8 : ptriple key b back = dblock (part8 p 0) b back := by unfold ptriple; rw [if_pos h8, EP.out]
    have H8 := Lib.hid h8
    have HK := Lib.hid (part8_len p 0 (by rw [HPL.out]; omega))
    have i8 : (key.length : Int) = 8 := by omega
    rw [e8]
    clear e8 h8
    go_enter Tryd.func33, Tryd.ntmps33
    go_wp2_with (first
      | ((with_reducible show wpList _ _ _ _ _ w); refine box_blk (w := w) rfl 75 _ rfl b rfl ?_; intro w0 hB0 hG0 hs0)
      | ((with_reducible show wpList _ _ _ _ _ w0); refine alloc_row (w := w0) rfl 75 rfl (.agg (Bs (List.replicate 8 0))) 8 (fun _ => by kernel_rfl) rfl ?_; intro w1 hR1 _ hG1 hs1)
      | (go_at_call 52; refine (HP.out _ ((HSL.out.old hG0 (Classical.em _)).old hG1 (Classical.em _))).mono ?_; rintro e w2 ⟨rfl, hG2⟩)
      | ((with_reducible show wpList _ _ _ _ _ w2); refine alloc_row (w := w2) rfl 108 rfl (.agg (Bs (List.replicate 24 0))) 24 (fun _ => by kernel_rfl) rfl ?_; intro w3 hR3 _ hG3 hs3)
      | ((with_reducible show wpList _ _ _ _ _ w3); refine store_blk (w := w3) rfl 108 _ _ rfl w2.heap.size 108 24 p rfl rfl hR3 HPL.out (by kernel_rfl) ?_; intro w4 hB4 hG4 hs4)
      | ((with_reducible show wpList _ _ _ _ _ w4); refine load_rd (w := w4) rfl 75 _ rfl w2.heap.size 0 8 5 (part8 p 0) rfl (hB4.rd 0 8 (by rw [HPL.out]; omega)) HK.out (by kernel_rfl) (by kernel_rfl) ?_)
      | ((with_reducible show wpList _ _ _ _ _ w4); refine load_blk (w := w4) rfl 75 _ rfl n 75 8 5 b rfl (by
          have h2s := hG2.size
          rw [hn] at hB0
          exact (((hB0.old hG1 (by simp)).below hG2 (by omega)).old hG3 (by simp)).old hG4 (by simp; omega)) HNB.out (by kernel_rfl) (by kernel_rfl) ?_)
      | (go_at_call 53; refine (Block_any (part8 p 0) b back HK.out HNB.out _).mono ?_; rintro e w5 ⟨rfl, hG5⟩)
      | ((with_reducible show wpList _ _ _ _ _ w5); refine store_blk (w := w5) rfl 75 _ _ rfl (n + 1) 75 8 (dblock (part8 p 0) b back) rfl rfl (by
          have e0 : w0.heap.size = n + 1 := by omega
          have h2s := hG2.size
          rw [e0] at hR1
          exact (((hR1.below hG2 (by omega)).old hG3 (by simp)).old hG4 (by simp; omega)).below hG5 (by omega)) (dblock_len _ _ _) (by kernel_rfl) ?_; intro w6 hB6 hG6 hs6))
    have e0 : w0.heap.size = n + 1 := by omega
    have h2s := hG2.size
    have hRn : Row w4 (n + 1) 75 8 := by rw [e0] at hR1; exact ((hR1.below hG2 (by omega)).old hG3 (by simp)).old hG4 (by simp; omega)
    have hBb : Blk w4 n 75 b := by rw [hn] at hB0; exact (((hB0.old hG1 (by simp)).below hG2 (by omega)).old hG3 (by simp)).old hG4 (by simp; omega)
    have hL4 : Below n w w4 := below_new (below_none (below_more (below_none (below_none (Below.refl n w) (by omega) hG0) (by omega) hG1) hG2 (by omega)) (by omega) hG3) (by omega) hG4 (by omega)
    refine bodyPost_ret (results_blk rfl _ _ (n + 1) 75 8 5 (dblock (part8 p 0) b back) rfl hB6 (dblock_len _ _ _) (by kernel_rfl) (by kernel_rfl)) rfl ⟨rfl, ?_⟩
    rw [Hn.out]
    have h5s := hG5.size
    exact below_new (below_more hL4 hG5 (by omega)) (by omega) hG6 (by omega)
  have hlen : ¬ key.length = 8 := h8
  have HT : Hid (ptriple key b false = triple3 (part8 p 0) (part8 p 8) (part8 p 16) b false) := Lib.hid (by unfold ptriple; rw [if_neg h8, EP.out]; rfl)
  have HT' : Hid (ptriple key b true = triple3 (part8 p 16) (part8 p 8) (part8 p 0) b true) := Lib.hid (by unfold ptriple; rw [if_neg h8, EP.out]; rfl)
  have i8 : ¬ (key.length : Int) = 8 := by omega
  clear h8 hlen
  cases back
  · go_enter Tryd.func33, Tryd.ntmps33
    go_wp2_with (first
      | ((with_reducible show wpList _ _ _ _ _ w); refine box_blk (w := w) rfl 75 _ rfl b rfl ?_; intro w0 hB0 hG0 hs0)
      | ((with_reducible show wpList _ _ _ _ _ w0); refine alloc_row (w := w0) rfl 75 rfl (.agg (Bs (List.replicate 8 0))) 8 (fun _ => by kernel_rfl) rfl ?_; intro w1 hR1 _ hG1 hs1)
      | (go_at_call 52; refine (HP.out _ ((HSL.out.old hG0 (Classical.em _)).old hG1 (Classical.em _))).mono ?_; rintro e w2 ⟨rfl, hG2⟩)
      | ((with_reducible show wpList _ _ _ _ _ w2); refine alloc_row (w := w2) rfl 108 rfl (.agg (Bs (List.replicate 24 0))) 24 (fun _ => by kernel_rfl) rfl ?_; intro w3 hR3 _ hG3 hs3)
      | ((with_reducible show wpList _ _ _ _ _ w3); refine store_blk (w := w3) rfl 108 _ _ rfl w2.heap.size 108 24 p rfl rfl hR3 HPL.out (by kernel_rfl) ?_; intro w4 hB4 hG4 hs4))
    have e0 : w0.heap.size = n + 1 := by omega
    have h2s := hG2.size
    have hRn : Row w4 (n + 1) 75 8 := by rw [e0] at hR1; exact ((hR1.below hG2 (by omega)).old hG3 (by simp)).old hG4 (by simp; omega)
    have hBb : Blk w4 n 75 b := by rw [hn] at hB0; exact (((hB0.old hG1 (by simp)).below hG2 (by omega)).old hG3 (by simp)).old hG4 (by simp; omega)
    have hL4 : Below n w w4 := below_new (below_none (below_more (below_none (below_none (Below.refl n w) (by omega) hG0) (by omega) hG1) hG2 (by omega)) (by omega) hG3) (by omega) hG4 (by omega)
    obtain ⟨G, eG⟩ : ∃ G, w2.heap.size = G := ⟨_, rfl⟩
    have hGn : n + 2 ≤ G := by omega
    have hBp : Blk w4 G 108 p := by rw [eG] at hB4; exact hB4
    have hsz : G + 1 ≤ w4.heap.size := by omega
    rw [eG]
    clear hB0 hG0 hs0 hR1 hG1 hs1 hG2 hR3 hG3 hs3 hB4 hG4 hs4 e0 h2s eG hn
    have hql := HPL.out
    have hBq := hBp
    have hBb' := hBb
    have hRn' := hRn
    have HK0 := Lib.hid (part8_len p 0 (by rw [hql]; omega))
    have HK1 := Lib.hid (part8_len p 8 (by rw [hql]; omega))
    have HK2 := Lib.hid (part8_len p 16 (by rw [hql]; omega))
    have hNW : n + 2 ≤ w4.heap.size := by omega
    obtain ⟨N, eN⟩ : ∃ N, w4.heap.size = N := ⟨_, rfl⟩
    have hNle : N ≤ w4.heap.size := by omega
    have hNG : G < N := by omega
    have hdr : Below N w4 w4.drew := by rw [← eN]; exact below_drew _
    refine wp_quiet_tail (fun w' => Below N w4 w') 14 (by kernel_rfl) (by kernel_rfl) hdr ?_
    simp only [List.take_succ_cons, List.take_zero, List.drop_succ_cons, List.drop_zero]
    refine quiet_val (by kernel_rfl) (.pointer (some ⟨G, 16, none⟩)) (fun w => by kernel_rfl) ?_
    refine quiet_load (by kernel_rfl) 75 _ rfl G 16 8 5 (part8 p 16) (by kernel_rfl) (fun w' hw' => (hBq.below hw' hNG).rd 16 8 (by rw [hql]; omega)) HK2.out (by kernel_rfl) (by kernel_rfl) ?_
    refine quiet_val (by kernel_rfl) (.pointer (some ⟨G, 8, none⟩)) (fun w => by kernel_rfl) ?_
    refine quiet_load (by kernel_rfl) 75 _ rfl G 8 8 5 (part8 p 8) (by kernel_rfl) (fun w' hw' => (hBq.below hw' hNG).rd 8 8 (by rw [hql]; omega)) HK1.out (by kernel_rfl) (by kernel_rfl) ?_
    refine quiet_val (by kernel_rfl) (.pointer (some ⟨G, 0, none⟩)) (fun w => by kernel_rfl) ?_
    refine quiet_load (by kernel_rfl) 75 _ rfl G 0 8 5 (part8 p 0) (by kernel_rfl) (fun w' hw' => (hBq.below hw' hNG).rd 0 8 (by rw [hql]; omega)) HK0.out (by kernel_rfl) (by kernel_rfl) ?_
    refine quiet_load (by kernel_rfl) 75 _ rfl n 0 8 5 b (by kernel_rfl) (fun w' hw' => (by
        have h := (hBb'.below hw' (by omega)).rd 0 8 (by rw [HNB.out]; omega)
        rw [List.drop_zero, List.take_of_length_le (by rw [HNB.out]; omega)] at h
        exact h)) HNB.out (by kernel_rfl) (by kernel_rfl) ?_
    refine quiet_val (by kernel_rfl) (.bool false) (fun w => by kernel_rfl) ?_
    refine quiet_enter (by kernel_rfl) 53 #[.agg (Bs (part8 p 0)), .agg (Bs b), .bool false] (.agg (Bs (dblock (part8 p 0) b false))) (fun w => by kernel_rfl) (fun w' hw' => block_in _ _ false HK0.out HNB.out N w4 w' hw' hNle) ?_
    refine quiet_val (by kernel_rfl) (.bool false) (fun w => by kernel_rfl) ?_
    refine quiet_val (by kernel_rfl) (.bool true) (fun w => by kernel_rfl) ?_
    refine quiet_enter (by kernel_rfl) 53 #[.agg (Bs (part8 p 8)), .agg (Bs (dblock (part8 p 0) b false)), .bool true] (.agg (Bs (dblock (part8 p 8) (dblock (part8 p 0) b false) true))) (fun w => by kernel_rfl) (fun w' hw' => block_in _ _ true HK1.out (dblock_len _ _ _) N w4 w' hw' hNle) ?_
    refine quiet_val (by kernel_rfl) (.bool false) (fun w => by kernel_rfl) ?_
    refine quiet_enter (by kernel_rfl) 53 #[.agg (Bs (part8 p 16)), .agg (Bs (dblock (part8 p 8) (dblock (part8 p 0) b false) true)), .bool false] (.agg (Bs (triple3 (part8 p 0) (part8 p 8) (part8 p 16) b false))) (fun w => by kernel_rfl) (fun w' hw' => block_in _ _ false HK2.out (dblock_len _ _ _) N w4 w' hw' hNle) ?_
    refine wpQuiet_nil ?_
    intro w5 hG5
    simp only [Act.put, List.setIfInBounds_toArray, List.set_cons_succ, List.set_cons_zero]
    go_wp2_with (refine store_blk (w := w5) rfl 75 _ _ rfl (n + 1) 75 8 (triple3 (part8 p 0) (part8 p 8) (part8 p 16) b false) rfl rfl (hRn'.below hG5 (by omega)) (dblock_len _ _ _) (by kernel_rfl) ?_; intro w6 hB6 hG6 hs6)
    refine bodyPost_ret (results_blk rfl _ _ (n + 1) 75 8 5 (triple3 (part8 p 0) (part8 p 8) (part8 p 16) b false) rfl hB6 (dblock_len _ _ _) (by kernel_rfl) (by kernel_rfl)) rfl ⟨by rw [HT.out]; rfl, ?_⟩
    rw [Hn.out]
    have h5s := hG5.size
    exact below_new (below_more hL4 hG5 (by omega)) (by omega) hG6 (by omega)
  · have HP8 := Lib.hid (show ∀ k, k + 8 ≤ 24 → (part8 p k).length = 8 from fun k hk => part8_len p k (by rw [HPL.out]; omega))
    go_enter Tryd.func33, Tryd.ntmps33
    go_wp2_with (first
      | ((with_reducible show wpList _ _ _ _ _ w); refine box_blk (w := w) rfl 75 _ rfl b rfl ?_; intro w0 hB0 hG0 hs0)
      | ((with_reducible show wpList _ _ _ _ _ w0); refine alloc_row (w := w0) rfl 75 rfl (.agg (Bs (List.replicate 8 0))) 8 (fun _ => by kernel_rfl) rfl ?_; intro w1 hR1 _ hG1 hs1)
      | (go_at_call 52; refine (HP.out _ ((HSL.out.old hG0 (Classical.em _)).old hG1 (Classical.em _))).mono ?_; rintro e w2 ⟨rfl, hG2⟩)
      | ((with_reducible show wpList _ _ _ _ _ w2); refine alloc_row (w := w2) rfl 108 rfl (.agg (Bs (List.replicate 24 0))) 24 (fun _ => by kernel_rfl) rfl ?_; intro w3 hR3 _ hG3 hs3)
      | ((with_reducible show wpList _ _ _ _ _ w3); refine store_blk (w := w3) rfl 108 _ _ rfl w2.heap.size 108 24 p rfl rfl hR3 HPL.out (by kernel_rfl) ?_; intro w4 hB4 hG4 hs4)
      | ((with_reducible show wpList _ _ _ _ _ w4); refine load_rd (w := w4) rfl 75 _ rfl w2.heap.size 16 8 5 (part8 p 16) rfl (hB4.rd 16 8 (by rw [HPL.out]; omega)) (HP8.out 16 (by omega)) (by kernel_rfl) (by kernel_rfl) ?_)
      | ((with_reducible show wpList _ _ _ _ _ w4); refine load_rd (w := w4) rfl 75 _ rfl w2.heap.size 0 8 5 (part8 p 0) rfl (hB4.rd 0 8 (by rw [HPL.out]; omega)) (HP8.out 0 (by omega)) (by kernel_rfl) (by kernel_rfl) ?_)
      | ((with_reducible show wpList _ _ _ _ _ w4); refine store_mid (w := w4) rfl 75 _ _ rfl w2.heap.size 0 108 8 p (part8 p 16) rfl rfl hB4 (HP8.out 16 (by omega)) (by rw [HPL.out]; omega) (by kernel_rfl) ?_; intro w4a hB4a hG4a hs4a)
      | ((with_reducible show wpList _ _ _ _ _ w4a); refine store_mid (w := w4a) rfl 75 _ _ rfl w2.heap.size 16 108 8 (putAt p 0 (part8 p 16)) (part8 p 0) rfl rfl hB4a (HP8.out 0 (by omega)) (by rw [putAt_len, HPL.out]; omega) (by kernel_rfl) ?_; intro w4b hB4b hG4b hs4b))
    have e0 : w0.heap.size = n + 1 := by omega
    have h2s := hG2.size
    have hRn : Row w4 (n + 1) 75 8 := by rw [e0] at hR1; exact ((hR1.below hG2 (by omega)).old hG3 (by simp)).old hG4 (by simp; omega)
    have hBb : Blk w4 n 75 b := by rw [hn] at hB0; exact (((hB0.old hG1 (by simp)).below hG2 (by omega)).old hG3 (by simp)).old hG4 (by simp; omega)
    have hL4 : Below n w w4 := below_new (below_none (below_more (below_none (below_none (Below.refl n w) (by omega) hG0) (by omega) hG1) hG2 (by omega)) (by omega) hG3) (by omega) hG4 (by omega)
    obtain ⟨G, eG⟩ : ∃ G, w2.heap.size = G := ⟨_, rfl⟩
    have hGn : n + 2 ≤ G := by omega
    have hBp : Blk w4 G 108 p := by rw [eG] at hB4; exact hB4
    have hsz : G + 1 ≤ w4.heap.size := by omega
    obtain ⟨q, eq⟩ : ∃ q, part8 p 16 ++ (part8 p 8 ++ (part8 p 0 ++ [])) = q := ⟨_, rfl⟩
    have hBq : Blk w4b G 108 q := by rw [eG, swap24 p HPL.out, eq] at hB4b; exact hB4b
    obtain ⟨q0, q8, q16⟩ := sub3 (part8 p 16) (part8 p 8) (part8 p 0) (HP8.out 16 (by omega)) (HP8.out 8 (by omega)) (HP8.out 0 (by omega))
    rw [eq] at q0 q8 q16
    have hql : q.length = 24 := by rw [← eq]; simp [HP8.out 16 (by omega), HP8.out 8 (by omega), HP8.out 0 (by omega)]
    have HTq : Hid (ptriple key b true = triple3 (part8 q 0) (part8 q 8) (part8 q 16) b true) := Lib.hid (by rw [HT'.out, q0, q8, q16])
    have hBb' : Blk w4b n 75 b := (hBb.old hG4a (by simp; omega)).old hG4b (by simp; omega)
    have hRn' : Row w4b (n + 1) 75 8 := (hRn.old hG4a (by simp; omega)).old hG4b (by simp; omega)
    have hL5 : Below n w w4b := below_new (below_new hL4 (by omega) hG4a (by omega)) (by omega) hG4b (by omega)
    have hsz' : G + 1 ≤ w4b.heap.size := by omega
    rw [eG]
    clear hB0 hG0 hs0 hR1 hG1 hs1 hG2 hR3 hG3 hs3 hB4 hG4 hs4 e0 h2s eG hn hB4a hG4a hs4a hB4b hG4b hs4b q0 q8 q16 eq hsz
    have HK0 := Lib.hid (part8_len q 0 (by rw [hql]; omega))
    have HK1 := Lib.hid (part8_len q 8 (by rw [hql]; omega))
    have HK2 := Lib.hid (part8_len q 16 (by rw [hql]; omega))
    have hNW : n + 2 ≤ w4b.heap.size := by omega
    obtain ⟨N, eN⟩ : ∃ N, w4b.heap.size = N := ⟨_, rfl⟩
    have hNle : N ≤ w4b.heap.size := by omega
    have hNG : G < N := by omega
    have hdr : Below N w4b w4b.drew := by rw [← eN]; exact below_drew _
    refine wp_quiet_tail (fun w' => Below N w4b w') 14 (by kernel_rfl) (by kernel_rfl) hdr ?_
    simp only [List.take_succ_cons, List.take_zero, List.drop_succ_cons, List.drop_zero]
    refine quiet_val (by kernel_rfl) (.pointer (some ⟨G, 16, none⟩)) (fun w => by kernel_rfl) ?_
    refine quiet_load (by kernel_rfl) 75 _ rfl G 16 8 5 (part8 q 16) (by kernel_rfl) (fun w' hw' => (hBq.below hw' hNG).rd 16 8 (by rw [hql]; omega)) HK2.out (by kernel_rfl) (by kernel_rfl) ?_
    refine quiet_val (by kernel_rfl) (.pointer (some ⟨G, 8, none⟩)) (fun w => by kernel_rfl) ?_
    refine quiet_load (by kernel_rfl) 75 _ rfl G 8 8 5 (part8 q 8) (by kernel_rfl) (fun w' hw' => (hBq.below hw' hNG).rd 8 8 (by rw [hql]; omega)) HK1.out (by kernel_rfl) (by kernel_rfl) ?_
    refine quiet_val (by kernel_rfl) (.pointer (some ⟨G, 0, none⟩)) (fun w => by kernel_rfl) ?_
    refine quiet_load (by kernel_rfl) 75 _ rfl G 0 8 5 (part8 q 0) (by kernel_rfl) (fun w' hw' => (hBq.below hw' hNG).rd 0 8 (by rw [hql]; omega)) HK0.out (by kernel_rfl) (by kernel_rfl) ?_
    refine quiet_load (by kernel_rfl) 75 _ rfl n 0 8 5 b (by kernel_rfl) (fun w' hw' => (by
        have h := (hBb'.below hw' (by omega)).rd 0 8 (by rw [HNB.out]; omega)
        rw [List.drop_zero, List.take_of_length_le (by rw [HNB.out]; omega)] at h
        exact h)) HNB.out (by kernel_rfl) (by kernel_rfl) ?_
    refine quiet_val (by kernel_rfl) (.bool true) (fun w => by kernel_rfl) ?_
    refine quiet_enter (by kernel_rfl) 53 #[.agg (Bs (part8 q 0)), .agg (Bs b), .bool true] (.agg (Bs (dblock (part8 q 0) b true))) (fun w => by kernel_rfl) (fun w' hw' => block_in _ _ true HK0.out HNB.out N w4b w' hw' hNle) ?_
    refine quiet_val (by kernel_rfl) (.bool true) (fun w => by kernel_rfl) ?_
    refine quiet_val (by kernel_rfl) (.bool false) (fun w => by kernel_rfl) ?_
    refine quiet_enter (by kernel_rfl) 53 #[.agg (Bs (part8 q 8)), .agg (Bs (dblock (part8 q 0) b true)), .bool false] (.agg (Bs (dblock (part8 q 8) (dblock (part8 q 0) b true) false))) (fun w => by kernel_rfl) (fun w' hw' => block_in _ _ false HK1.out (dblock_len _ _ _) N w4b w' hw' hNle) ?_
    refine quiet_val (by kernel_rfl) (.bool true) (fun w => by kernel_rfl) ?_
    refine quiet_enter (by kernel_rfl) 53 #[.agg (Bs (part8 q 16)), .agg (Bs (dblock (part8 q 8) (dblock (part8 q 0) b true) false)), .bool true] (.agg (Bs (triple3 (part8 q 0) (part8 q 8) (part8 q 16) b true))) (fun w => by kernel_rfl) (fun w' hw' => block_in _ _ true HK2.out (dblock_len _ _ _) N w4b w' hw' hNle) ?_
    refine wpQuiet_nil ?_
    intro w5 hG5
    simp only [Act.put, List.setIfInBounds_toArray, List.set_cons_succ, List.set_cons_zero]
    go_wp2_with (refine store_blk (w := w5) rfl 75 _ _ rfl (n + 1) 75 8 (triple3 (part8 q 0) (part8 q 8) (part8 q 16) b true) rfl rfl (hRn'.below hG5 (by omega)) (dblock_len _ _ _) (by kernel_rfl) ?_; intro w6 hB6 hG6 hs6)
    refine bodyPost_ret (results_blk rfl _ _ (n + 1) 75 8 5 (triple3 (part8 q 0) (part8 q 8) (part8 q 16) b true) rfl hB6 (dblock_len _ _ _) (by kernel_rfl) (by kernel_rfl)) rfl ⟨by rw [HTq.out]; rfl, ?_⟩
    rw [Hn.out]
    have h5s := hG5.size
    exact below_new (below_more hL5 hG5 (by omega)) (by omega) hG6 (by omega)
end Go.Proofs.YtbbfjlnkhenbiaaDoor
set_option linter.unusedVariables false
set_option linter.unusedSimpArgs false
namespace Go.Proofs.YtbbfjlnkhenbiaaDoor
open Go.RowKit Lk
/-- it returns a slice of its own that holds these bytes -/
def RetOwn (w : World) (l : List UInt8) (e : Ending) (w' : World) : Prop := ∃ v, e = .returned v ∧ Own w' w.heap.size v l ∧ Below w.heap.size w w'
set_option maxHeartbeats 400000 in
set_option maxRecDepth 100000 in
theorem clone_any (v : Value) (l : List UInt8) (w : World) (h : SlB w v l) (hl : l.length ≤ 1099511627776) : Calls Tryd.prog 31 #[v] w (RetOwn w l) := by
  obtain ⟨A, c, rfl, n1, n2, n3, n4⟩ := id h
  cases A with
  | none =>
    obtain rfl := n1 rfl
    have hm0 : l = [] := List.eq_nil_of_length_eq_zero (by omega)
    subst hm0
    have hq := fun w => Lib.run_eql_slice_nil (P := Tryd.prog) w 22 5 none 0 0 0 0 hu_sl
    clear h n1 n2 n3 n4
    go_enter Tryd.func31, Tryd.ntmps31
    go_wp2
    go_ret
    exact ⟨_, rfl, own_nil _ _, Below.refl _ _⟩
  | some ad =>
    have hq := fun w => Lib.run_eql_slice_nil (P := Tryd.prog) w 22 5 (some ad) l.length c 0 0 hu_sl
    have H := Lib.hid h
    clear h n1 n2 n3 n4
    go_enter Tryd.func31, Tryd.ntmps31
    go_wp2_with (at_builtin; refine append_b hu_sl hu_u8 rfl _ _ rfl w.heap.size _ [] rfl (own_lit0 w _ (Nat.le_refl _)) _ l rfl (H.out.alloc _) (by simp; omega) (by simp) ?_; intro v' w1 hO hG)
    go_ret
    exact ⟨_, rfl, hO, below_new ((Below.refl _ _).alloc (Nat.le_refl _) _) (by simp) hG (Nat.le_refl _)⟩
end Go.Proofs.YtbbfjlnkhenbiaaDoor
set_option linter.unusedVariables false
set_option linter.unusedSimpArgs false
namespace Go.Proofs.YtbbfjlnkhenbiaaDoor
open Go.RowKit Lk
theorem and1 (b : UInt8) : bits .and .u8 (bv b) 1 = bv (b &&& 1) := bits_and_u8 b 1
theorem and128 (b : UInt8) : bits .and .u8 (bv b) 128 = bv (b &&& 128) := bits_and_u8 b 128
theorem xor27 (b : UInt8) : bits .xor .u8 (bv b) 27 = bv (b ^^^ 27) := bits_xor_u8 b 27
theorem xor99 (b : UInt8) : bits .xor .u8 (bv b) 99 = bv (b ^^^ 99) := bits_xor_u8 b 99
theorem xor5 (b : UInt8) : bits .xor .u8 (bv b) 5 = bv (b ^^^ 5) := bits_xor_u8 b 5
theorem eq1 (b : UInt8) : (bv b == 1) = (b == 1) := bv_eq b 1
theorem ne0 (b : UInt8) : (bv b != 0) = (b != 0) := bv_ne b 0
/-- the state after k rounds -/
def mst (a b : UInt8) : Nat → UInt8 × UInt8 × UInt8
  | 0 => (0, a, b)
  | k + 1 => let s := mst a b k; (if s.2.2 &&& 1 == 1 then s.1 ^^^ s.2.1 else s.1, xt s.2.1, s.2.2 >>> 1)
theorem mst_loop (a b : UInt8) (n : Nat) : ∀ k, mulLoop n (mst a b k).1 (mst a b k).2.1 (mst a b k).2.2 = (mst a b (k + n)).1 := by
  induction n with
  | zero => intro k; rfl
  | succ n ih =>
    intro k
    have := ih (k + 1)
    simp only [mst] at this
    simp only [mulLoop]
    rw [this, show k + 1 + n = k + (n + 1) by omega]
theorem mst_end (a b : UInt8) : (mst a b 8).1 = gmul a b := (mst_loop a b 8 0).symm
set_option maxHeartbeats 400000 in
set_option maxRecDepth 100000 in
theorem mul_any (a b : UInt8) (w : World) : Calls Tryd.prog 104 #[.int .u8 (bv a), .int .u8 (bv b)] w fun e w' => e = .returned (.int .u8 (bv (gmul a b))) ∧ w = w' := by
  have r1 := and1
  have r2 := and128
  have r3 := xor27
  have r4 := eq1
  have r5 := ne0
  go_enter Tryd.func104, Tryd.ntmps104
  go_wp2
  go_loop [0, 1, 5, 7] (fun va vb vo i => ∃ k : Nat, k ≤ 8 ∧ i = .int .i64 k ∧ vo = .int .u8 (bv (mst a b k).1) ∧ va = .int .u8 (bv (mst a b k).2.1) ∧ vb = .int .u8 (bv (mst a b k).2.2)) (fun _ _ _ i => 8 - (intOf i).toNat)
  case atStart => exact ⟨0, by omega, rfl, rfl, rfl, rfl⟩
  case round =>
    obtain ⟨k, hk, rfl, rfl, rfl, rfl⟩ := hrel
    by_cases hlt : k < 8
    · obtain ⟨o, ho⟩ : ∃ o, (mst a b k).1 = o := ⟨_, rfl⟩
      obtain ⟨x, hx⟩ : ∃ o, (mst a b k).2.1 = o := ⟨_, rfl⟩
      obtain ⟨y, hy⟩ : ∃ o, (mst a b k).2.2 = o := ⟨_, rfl⟩
      have H0 : mst a b (k + 1) = (if y &&& 1 == 1 then o ^^^ x else o, x <<< 1 ^^^ hi x, y >>> 1) := by
        show (if (mst a b k).2.2 &&& 1 == 1 then (mst a b k).1 ^^^ (mst a b k).2.1 else (mst a b k).1, xt (mst a b k).2.1, (mst a b k).2.2 >>> 1) = _
        rw [ho, hx, hy]; rfl
      have H := Lib.hid H0
      clear H0
      rw [ho, hx, hy]
      clear ho hx hy
      rcases low01 y with h1 | h1 <;> rcases hi80 x with ⟨h2, h3⟩ | ⟨h2, h3⟩
      all_goals
        have H2 := Lib.hid (And.intro h1 h3)
        first
          | have u1 : (y &&& 1 == 1) = true := by rw [h1]; rfl
          | have u1 : (y &&& 1 == 1) = false := by rw [h1]; rfl
        first
          | have u2 : (x &&& 128 != 0) = true := by rw [h2]; rfl
          | have u2 : (x &&& 128 != 0) = false := by rw [h2]; rfl
        clear h1 h2 h3
        go_wp2
        go_round
        case rel => exact ⟨k + 1, by omega, by go_num, by rw [H.out, H2.out.1]; rfl, by rw [H.out, H2.out.2]; (try simp [bv_dbl, r3]), by rw [H.out]; (try simp [bv_half])⟩
        case measure => simp [intOf]; omega
    · have H := Lib.hid (mst_end a b)
      go_wp2
      go_ret
      obtain rfl : k = 8 := by omega
      exact ⟨congrArg (fun x => Ending.returned (.int .u8 (bv x))) H.out, rfl⟩
/-- the state after k squares -/
def ist (a : UInt8) : Nat → UInt8 × UInt8
  | 0 => (1, a)
  | k + 1 => let s := ist a k; (gmul s.1 (gmul s.2 s.2), gmul s.2 s.2)
theorem ist_loop (a : UInt8) (n : Nat) : ∀ k, invLoop n (ist a k).1 (ist a k).2 = (ist a (k + n)).1 := by
  induction n with
  | zero => intro k; rfl
  | succ n ih =>
    intro k
    have := ih (k + 1)
    simp only [ist] at this
    simp only [invLoop]
    rw [this, show k + 1 + n = k + (n + 1) by omega]
theorem ist_end (a : UInt8) : (ist a 7).1 = ginv a := (ist_loop a 7 0).symm
set_option maxHeartbeats 400000 in
set_option maxRecDepth 100000 in
theorem inv_any (a : UInt8) (w : World) : Calls Tryd.prog 105 #[.int .u8 (bv a)] w fun e w' => e = .returned (.int .u8 (bv (ginv a))) ∧ w = w' := by
  go_enter Tryd.func105, Tryd.ntmps105
  go_wp2
  go_loop [0, 3, 4] (fun va vo i => ∃ k : Nat, k ≤ 7 ∧ i = .int .i64 k ∧ vo = .int .u8 (bv (ist a k).1) ∧ va = .int .u8 (bv (ist a k).2)) (fun _ _ i => 7 - (intOf i).toNat)
  case atStart => exact ⟨0, by omega, rfl, rfl, rfl⟩
  case round =>
    obtain ⟨k, hk, rfl, rfl, rfl⟩ := hrel
    by_cases hlt : k < 7
    · go_wp2_with (go_at_call 104; refine (mul_any _ _ _).mono ?_; rintro e w' ⟨rfl, rfl⟩)
      go_round
      case rel => exact ⟨k + 1, by omega, by go_num, rfl, rfl⟩
      case measure => simp [intOf]; omega
    · have H := Lib.hid (ist_end a)
      go_wp2
      go_ret
      obtain rfl : k = 7 := by omega
      exact ⟨congrArg (fun x => Ending.returned (.int .u8 (bv x))) H.out, rfl⟩
theorem shl_lit (a : UInt8) (n : Nat) (h : n < 8) : IntKind.u8.wrap (bv a * (2 : Int) ^ n) = bv (a <<< UInt8.ofNat n) := by
  unfold bv
  rw [IntKind.wrap_u8, UInt8.toNat_shiftLeft, UInt8.toNat_ofNat', Nat.mod_eq_of_lt (show n < 2 ^ 8 by omega), Nat.mod_eq_of_lt h, Nat.shiftLeft_eq]
  simp
theorem shr_lit (a : UInt8) (n : Nat) (h : n < 8) : bv a / (2 : Int) ^ n = bv (a >>> UInt8.ofNat n) := by
  unfold bv
  rw [UInt8.toNat_shiftRight, UInt8.toNat_ofNat', Nat.mod_eq_of_lt (show n < 2 ^ 8 by omega), Nat.mod_eq_of_lt h, Nat.shiftRight_eq_div_pow]
  simp
theorem rot_form (a : UInt8) (n : Nat) (h0 : 0 < n) (h8 : n < 8) : bits .or .u8 (bv a * (2 : Int) ^ n % 256) (bv a / (2 : Int) ^ (8 - n)) = bv (rot a n) := by
  have h1 := shl_lit a n h8
  rw [IntKind.wrap_u8] at h1
  rw [h1, shr_lit a (8 - n) (by omega)]
  exact bv_or _ _
theorem rot2 (a : UInt8) : bits .or .u8 (bv a * (4 : Int) % (256 : Int)) (bv a / (64 : Int)) = bv (rot a 2) := rot_form a 2 (by decide) (by decide)
theorem rot3 (a : UInt8) : bits .or .u8 (bv a * (8 : Int) % (256 : Int)) (bv a / (32 : Int)) = bv (rot a 3) := rot_form a 3 (by decide) (by decide)
theorem rot4 (a : UInt8) : bits .or .u8 (bv a * (16 : Int) % (256 : Int)) (bv a / (16 : Int)) = bv (rot a 4) := rot_form a 4 (by decide) (by decide)
theorem rot6 (a : UInt8) : bits .or .u8 (bv a * (64 : Int) % (256 : Int)) (bv a / (4 : Int)) = bv (rot a 6) := rot_form a 6 (by decide) (by decide)
set_option maxHeartbeats 400000 in
set_option maxRecDepth 100000 in
theorem turn_any (a : UInt8) (n : Nat) (hn : n = 1 ∨ n = 2 ∨ n = 3 ∨ n = 4 ∨ n = 6) (w : World) : Calls Tryd.prog 106 #[.int .u8 (bv a), .int .i64 n] w fun e w' => e = .returned (.int .u8 (bv (rot a n))) ∧ Drawn w w' := by
  have ho := bv_or
  rcases hn with rfl | rfl | rfl | rfl | rfl
  all_goals
    go_enter Tryd.func106, Tryd.ntmps106
    go_wp2
    go_region
    go_wp2
    go_ret
  · exact ⟨congrArg (fun x => Ending.returned (.int .u8 x)) (by rw [bv_top, ho]; rfl), .one w⟩
  · exact ⟨congrArg (fun x => Ending.returned (.int .u8 x)) (rot2 a), .one w⟩
  · exact ⟨congrArg (fun x => Ending.returned (.int .u8 x)) (rot3 a), .one w⟩
  · exact ⟨congrArg (fun x => Ending.returned (.int .u8 x)) (rot4 a), .one w⟩
  · exact ⟨congrArg (fun x => Ending.returned (.int .u8 x)) (rot6 a), .one w⟩
theorem turn_1 (a : UInt8) (w : World) : Calls Tryd.prog 106 #[.int .u8 (bv a), .int .i64 1] w fun e w' => e = .returned (.int .u8 (bv (rot a 1))) ∧ Drawn w w' := turn_any a 1 (by decide) w
theorem turn_2 (a : UInt8) (w : World) : Calls Tryd.prog 106 #[.int .u8 (bv a), .int .i64 2] w fun e w' => e = .returned (.int .u8 (bv (rot a 2))) ∧ Drawn w w' := turn_any a 2 (by decide) w
theorem turn_3 (a : UInt8) (w : World) : Calls Tryd.prog 106 #[.int .u8 (bv a), .int .i64 3] w fun e w' => e = .returned (.int .u8 (bv (rot a 3))) ∧ Drawn w w' := turn_any a 3 (by decide) w
theorem turn_4 (a : UInt8) (w : World) : Calls Tryd.prog 106 #[.int .u8 (bv a), .int .i64 4] w fun e w' => e = .returned (.int .u8 (bv (rot a 4))) ∧ Drawn w w' := turn_any a 4 (by decide) w
theorem turn_6 (a : UInt8) (w : World) : Calls Tryd.prog 106 #[.int .u8 (bv a), .int .i64 6] w fun e w' => e = .returned (.int .u8 (bv (rot a 6))) ∧ Drawn w w' := turn_any a 6 (by decide) w
set_option maxHeartbeats 800000 in
set_option maxRecDepth 100000 in
theorem box_any (a : UInt8) (w : World) : Calls Tryd.prog 89 #[.int .u8 (bv a)] w fun e w' => e = .returned (.int .u8 (bv (gbox a))) ∧ Drawn w w' := by
  have x1 := xor99
  go_enter Tryd.func89, Tryd.ntmps89
  go_wp2_with (first
    | (go_at_call 105; refine (inv_any _ _).mono ?_; rintro e w' ⟨rfl, rfl⟩)
    | (go_at_call 106; (with_reducible refine (turn_1 _ _).mono ?_); rintro e w' ⟨rfl, ⟨n, rfl⟩⟩)
    | (go_at_call 106; (with_reducible refine (turn_2 _ _).mono ?_); rintro e w' ⟨rfl, ⟨n, rfl⟩⟩)
    | (go_at_call 106; (with_reducible refine (turn_3 _ _).mono ?_); rintro e w' ⟨rfl, ⟨n, rfl⟩⟩)
    | (go_at_call 106; (with_reducible refine (turn_4 _ _).mono ?_); rintro e w' ⟨rfl, ⟨n, rfl⟩⟩))
  go_ret
  exact ⟨rfl, by repeat (first | exact Drawn.refl _ | apply Drawn.step)⟩
set_option maxHeartbeats 800000 in
set_option maxRecDepth 100000 in
theorem unbox_any (a : UInt8) (w : World) : Calls Tryd.prog 88 #[.int .u8 (bv a)] w fun e w' => e = .returned (.int .u8 (bv (gunbox a))) ∧ Drawn w w' := by
  have x1 := xor5
  go_enter Tryd.func88, Tryd.ntmps88
  go_wp2_with (first
    | (go_at_call 105; refine (inv_any _ _).mono ?_; rintro e w' ⟨rfl, rfl⟩)
    | (go_at_call 106; (with_reducible refine (turn_1 _ _).mono ?_); rintro e w' ⟨rfl, ⟨n, rfl⟩⟩)
    | (go_at_call 106; (with_reducible refine (turn_3 _ _).mono ?_); rintro e w' ⟨rfl, ⟨n, rfl⟩⟩)
    | (go_at_call 106; (with_reducible refine (turn_6 _ _).mono ?_); rintro e w' ⟨rfl, ⟨n, rfl⟩⟩))
  go_ret
  exact ⟨rfl, by repeat (first | exact Drawn.refl _ | apply Drawn.step)⟩
end Go.Proofs.YtbbfjlnkhenbiaaDoor
set_option linter.unusedVariables false
set_option linter.unusedSimpArgs false
namespace Go.Proofs.YtbbfjlnkhenbiaaDoor
open Go.RowKit Lk
/-- the first k bytes are turned -/
def upd (f : Nat → UInt8) (b : List UInt8) (k : Nat) : List UInt8 := (List.range 16).map fun i => if i < k then f i else g8 b i
theorem upd_len (f : Nat → UInt8) (b : List UInt8) (k : Nat) : (upd f b k).length = 16 := by simp [upd]
theorem upd_zero (f : Nat → UInt8) (b : List UInt8) (hb : b.length = 16) : upd f b 0 = b := by
  apply List.ext_getElem
  · rw [upd_len, hb]
  · intro i h1 h2
    simp [upd, g8, h2]
theorem upd_at (f : Nat → UInt8) (b : List UInt8) (k i : Nat) (hi : i < 16) : g8 (upd f b k) i = if i < k then f i else g8 b i := by
  simp [upd, g8, hi]
theorem upd_set (f : Nat → UInt8) (b : List UInt8) (k : Nat) (hk : k < 16) : (upd f b k).set k (f k) = upd f b (k + 1) := by
  apply List.ext_getElem
  · simp [upd]
  · intro i h1 h2
    rw [List.getElem_set]
    simp only [upd, List.getElem_map, List.getElem_range]
    by_cases h : k = i
    · subst h; rw [if_pos rfl, if_pos (by omega)]
    · rw [if_neg h]
      by_cases h3 : i < k
      · rw [if_pos h3, if_pos (by omega)]
      · rw [if_neg h3, if_neg (by omega)]
def pwith (b ws : List UInt8) (r : Nat) : List UInt8 := upd (fun i => g8 b i ^^^ g8 ws (16 * r + i)) b 16
set_option maxHeartbeats 400000 in
set_option maxRecDepth 100000 in
theorem with_any (g T gw ow c r : Nat) (b ws : List UInt8) (w : World) (hg : Blk w g T b) (hb : b.length = 16) (hw : Rd w gw ow ws) (hne : gw ≠ g) (hr : 16 * r + 16 ≤ ws.length) (hl : ws.length ≤ 1000) :
    Calls Tryd.prog 84 #[.pointer (some ⟨g, 0, none⟩), .slice (some ⟨gw, ow, none⟩) ws.length c, .int .i64 r] w fun e w' =>
      e = .returned (.tuple #[]) ∧ Blk w' g T (pwith b ws r) ∧ w.grownBy w' (some g) := by
  go_enter Tryd.func84, Tryd.ntmps84
  go_wp2
  go_loopw [7] (fun i wr => ∃ k : Nat, k ≤ 16 ∧ i = .int .i64 k ∧ Blk wr g T (upd (fun i => g8 b i ^^^ g8 ws (16 * r + i)) b k) ∧ w.grownBy wr (some g)) (fun i _ => 16 - (intOf i).toNat)
  case atStart => exact ⟨0, by omega, rfl, by rw [upd_zero _ _ hb]; exact hg, grown_refl _ _⟩
  case round =>
    obtain ⟨k, hk, rfl, hB, hG⟩ := hrel
    by_cases hlt : k < 16
    · have c1 : wr.cell? ⟨g, k, none⟩ = some (.int .u8 (bv (g8 b k))) := by
        have := hB.cell k (by rw [upd_len]; exact hlt)
        rw [upd_at _ _ _ _ hlt, if_neg (by omega)] at this
        exact this
      have c2 : wr.cell? ⟨gw, ow + (16 * r + k), none⟩ = some (.int .u8 (bv (g8 ws (16 * r + k)))) := cell_old (hw.cell _ (by omega)) hG (by simp [hne.symm])
      have f1 : wr.frozen? ⟨g, k, none⟩ = false := hB.free k
      have HB := Lib.hid hB; clear hB
      have HG := Lib.hid hG; clear hG hg hw
      go_wp2
      go_region
      go_wp2
      go_roundw
      case rel =>
        refine ⟨k + 1, by omega, by go_num, ?_, grown_drew (grown_set HG.out _ _)⟩
        rw [← upd_set _ _ _ hlt]
        exact (HB.out.set k _).drew
      case measure => simp [intOf]; omega
    · obtain rfl : k = 16 := by omega
      have HB := Lib.hid hB; clear hB
      have HG := Lib.hid hG; clear hG hg hw
      go_wp2
      go_end0
      exact ⟨rfl, HB.out, HG.out⟩
/-- the i-th byte of rows that are turned -/
def prowsAt (b : List UInt8) (t i : Nat) : UInt8 := g8 b ((i + 4 * (i % 4) * t) % 16)
def prows (b : List UInt8) (t : Nat) : List UInt8 := upd (prowsAt b t) b 16
def pboxes (f : UInt8 → UInt8) (b : List UInt8) : List UInt8 := upd (fun i => f (g8 b i)) b 16
set_option maxHeartbeats 400000 in
set_option maxRecDepth 100000 in
theorem boxes_any (g T : Nat) (F : Nat) (f : UInt8 → UInt8) (hf : ∀ x w, Calls Tryd.prog F #[.int .u8 (bv x)] w fun e w' => e = .returned (.int .u8 (bv (f x))) ∧ Drawn w w') (b : List UInt8) (w : World) (hF : ∀ args (w : World), (callFunc F args).run Tryd.prog w = .ok (.enter F args) w) (hg : Blk w g T b) (hb : b.length = 16) :
    Calls Tryd.prog 87 #[.pointer (some ⟨g, 0, none⟩), .func (.func F) #[] #[]] w fun e w' =>
      e = .returned (.tuple #[]) ∧ Blk w' g T (pboxes f b) ∧ w.grownBy w' (some g) := by
  have Hf := Lib.hid hf; clear hf
  go_enter Tryd.func87, Tryd.ntmps87
  go_wp2
  go_loopw [5] (fun i wr => ∃ k : Nat, k ≤ 16 ∧ i = .int .i64 k ∧ Blk wr g T (upd (fun i => f (g8 b i)) b k) ∧ w.grownBy wr (some g)) (fun i _ => 16 - (intOf i).toNat)
  case atStart => exact ⟨0, by omega, rfl, by rw [upd_zero _ _ hb]; exact hg, grown_refl _ _⟩
  case round =>
    obtain ⟨k, hk, rfl, hB, hG⟩ := hrel
    by_cases hlt : k < 16
    · have c1 : wr.cell? ⟨g, k, none⟩ = some (.int .u8 (bv (g8 b k))) := by
        have := hB.cell k (by rw [upd_len]; exact hlt)
        rw [upd_at _ _ _ _ hlt, if_neg (by omega)] at this
        exact this
      have f1 : wr.frozen? ⟨g, k, none⟩ = false := hB.free k
      have HB := Lib.hid hB; clear hB
      have HG := Lib.hid hG; clear hG hg
      go_wp2
      go_region_with (refine (Hf.out _ _).mono ?_; rintro e w' ⟨rfl, ⟨n, rfl⟩⟩)
      all_goals
        go_wp2
        go_roundw
        case rel =>
          refine ⟨k + 1, by omega, by go_num, ?_, ?_⟩
          · rw [← upd_set _ _ _ hlt]
            exact HB.out.set k _
          · exact grown_set (grown_drewN HG.out _) _ _
        case measure => simp [intOf]; omega
    · obtain rfl : k = 16 := by omega
      have HB := Lib.hid hB; clear hB
      have HG := Lib.hid hG; clear hG hg
      go_wp2
      go_end0
      exact ⟨rfl, HB.out, HG.out⟩
/-- the index in the form in which a walk writes it -/
theorem rows_ix (k t : Nat) : (((k : Int) + 4 * ((k : Int) % 4) * (t : Int)) % 16) = (((k + 4 * (k % 4) * t) % 16 : Nat) : Int) := by push_cast; rfl
set_option maxHeartbeats 800000 in
set_option maxRecDepth 100000 in
theorem rows_any (g T t : Nat) (b : List UInt8) (w : World) (hg : Blk w g T b) (hb : b.length = 16) (ht : t = 1 ∨ t = 3) :
    Calls Tryd.prog 86 #[.pointer (some ⟨g, 0, none⟩), .int .i64 t] w fun e w' =>
      e = .returned (.tuple #[]) ∧ Blk w' g T (prows b t) ∧ w.grownBy w' (some g) := by
  go_enter Tryd.func86, Tryd.ntmps86
  have hgl := hg.lt
  go_wp2_with (first
    | (refine load_blk rfl 41 _ rfl g T 16 5 b rfl hg hb (by kernel_rfl) (by kernel_rfl) ?_)
    | (refine alloc_row rfl 41 rfl (.agg (Bs (List.replicate 16 0))) 16 (fun _ => by kernel_rfl) rfl ?_; intro w1 hR1 _ hG1 hs1)
    | (refine store_blk rfl 41 _ _ rfl w.heap.size 41 16 b rfl rfl hR1 hb (by kernel_rfl) ?_; intro w2 hB2 hG2 hs2))
  have hB : Blk w2 g T b := (hg.old hG1 (by simp)).old hG2 (by simp; omega)
  have hG : w.grownBy w2 (some g) := by
    refine ⟨hG2.os.trans hG1.os, hG2.tape.trans hG1.tape, hG2.output.trans hG1.output, by omega, fun i hi hr => ?_⟩
    rw [hG2.block i (by omega) (by simp; omega)]
    exact hG1.block i hi (by simp)
  clear hG1 hG2 hR1 hg
  obtain ⟨n, hn⟩ : ∃ n, w.heap.size = n := ⟨_, rfl⟩
  rw [hn] at hB2 hgl ⊢
  have hne : g ≠ n := by omega
  clear hs1 hs2 hn
  go_loopw [10] (fun i wr => ∃ k : Nat, k ≤ 16 ∧ i = .int .i64 k ∧ Blk wr g T (upd (prowsAt b t) b k) ∧ Blk wr n 41 b ∧ w.grownBy wr (some g)) (fun i _ => 16 - (intOf i).toNat)
  case atStart => exact ⟨0, by omega, rfl, by rw [upd_zero _ _ hb]; exact hB, hB2, hG⟩
  case round =>
    clear hB hB2 hG
    obtain ⟨k, hk, rfl, hB, hN, hG⟩ := hrel
    by_cases hlt : k < 16
    · have c1 : wr.cell? ⟨n, (k + 4 * (k % 4) * t) % 16, none⟩ = some (.int .u8 (bv (prowsAt b t k))) := hN.cell _ (by omega)
      have c2 : wr.cell? ⟨g, k, none⟩ = some (.int .u8 (bv (g8 b k))) := by
        have := hB.cell k (by rw [upd_len]; exact hlt)
        rw [upd_at _ _ _ _ hlt, if_neg (by omega)] at this
        exact this
      have f1 : wr.frozen? ⟨g, k, none⟩ = false := hB.free k
      have HB := Lib.hid hB; clear hB
      have HN := Lib.hid hN; clear hN
      have HG := Lib.hid hG; clear hG
      obtain ⟨x, hx⟩ : ∃ x, prowsAt b t k = x := ⟨_, rfl⟩
      rw [hx] at c1
      have HX := Lib.hid hx; clear hx
      rcases ht with rfl | rfl
      · rw [Nat.mul_one] at c1
        go_wp2
        go_region
        go_wp2
        go_roundw
        case rel =>
          refine ⟨k + 1, by omega, by go_num, ?_, ((HN.out.old (grown_set (grown_refl _ (some g)) _ _) (by simp [hne])).drew), grown_drew (grown_set HG.out _ _)⟩
          rw [← upd_set _ _ _ hlt, HX.out]
          exact (HB.out.set k _).drew
        case measure => simp [intOf]; omega
      · go_wp2
        go_region
        go_wp2
        go_roundw
        case rel =>
          refine ⟨k + 1, by omega, by go_num, ?_, ((HN.out.old (grown_set (grown_refl _ (some g)) _ _) (by simp [hne])).drew), grown_drew (grown_set HG.out _ _)⟩
          rw [← upd_set _ _ _ hlt, HX.out]
          exact (HB.out.set k _).drew
        case measure => simp [intOf]; omega
    · obtain rfl : k = 16 := by omega
      have HB := Lib.hid hB; clear hB
      have HG := Lib.hid hG; clear hG hN
      go_wp2
      go_end0
      exact ⟨rfl, HB.out, HG.out⟩
/-- a column's byte, of the first k of four products -/
def colTo (m b : List UInt8) (i : Nat) : Nat → UInt8
  | 0 => 0
  | k + 1 => colTo m b i k ^^^ gmul (g8 m k) (g8 b (i / 4 * 4 + (i % 4 + k) % 4))
def pcols (m b : List UInt8) : List UInt8 := upd (fun i => colTo m b i 4) b 16
set_option maxHeartbeats 1600000 in
set_option maxRecDepth 100000 in
theorem columns_any (g T : Nat) (m b : List UInt8) (w : World) (hg : Blk w g T b) (hb : b.length = 16) (hm : m.length = 4) :
    Calls Tryd.prog 85 #[.pointer (some ⟨g, 0, none⟩), .agg (Bs m)] w fun e w' =>
      e = .returned (.tuple #[]) ∧ Blk w' g T (pcols m b) ∧ w.grownBy w' (some g) := by
  go_enter Tryd.func85, Tryd.ntmps85
  have hgl := hg.lt
  obtain ⟨n, hn⟩ : ∃ n, w.heap.size = n := ⟨_, rfl⟩
  have HN := Lib.hid hn
  go_wp2_with (first
    | (refine box_blk rfl 165 _ rfl m rfl ?_; intro w0 hM0 hG0 hs0)
    | (refine load_blk rfl 41 _ rfl g T 16 5 b rfl (hg.old hG0 (by simp)) hb (by kernel_rfl) (by kernel_rfl) ?_)
    | (refine alloc_row rfl 41 rfl (.agg (Bs (List.replicate 16 0))) 16 (fun _ => by kernel_rfl) rfl ?_; intro w1 hR1 _ hG1 hs1)
    | (refine store_blk rfl 41 _ _ rfl w0.heap.size 41 16 b rfl rfl hR1 hb (by kernel_rfl) ?_; intro w2 hB2 hG2 hs2))
  have hne : g ≠ n := by omega
  have hne1 : g ≠ n + 1 := by omega
  have hM : Blk w2 n 165 m := ((hn ▸ hM0).old hG1 (by simp)).old hG2 (by simp; omega)
  have hN : Blk w2 (n + 1) 41 b := by rw [hs0, hn] at hB2; exact hB2
  have hB : Blk w2 g T b := ((hg.old hG0 (by simp)).old hG1 (by simp)).old hG2 (by simp; omega)
  have hG : w.grownBy w2 (some g) := by
    refine ⟨hG2.os.trans (hG1.os.trans hG0.os), hG2.tape.trans (hG1.tape.trans hG0.tape), hG2.output.trans (hG1.output.trans hG0.output), by omega, fun i hi hr => ?_⟩
    rw [hG2.block i (by omega) (by simp; omega), hG1.block i (by omega) (by simp)]
    exact hG0.block i hi (by simp)
  clear hG0 hG1 hG2 hB2 hM0 hs0 hs1 hs2 hR1 hg hgl HN hn
  go_loopw [12] (fun i wr => ∃ k : Nat, k ≤ 16 ∧ i = .int .i64 k ∧ Blk wr g T (upd (fun i => colTo m b i 4) b k) ∧ Blk wr n 165 m ∧ Blk wr (n + 1) 41 b ∧ w.grownBy wr (some g)) (fun i _ => 16 - (intOf i).toNat)
  case atStart => exact ⟨0, by omega, rfl, by rw [upd_zero _ _ hb]; exact hB, hM, hN, hG⟩
  case round =>
    clear hB hM hN hG
    obtain ⟨k, hk, rfl, hB, hM, hN, hG⟩ := hrel
    by_cases hlt : k < 16
    · have c2 : wr.cell? ⟨g, k, none⟩ = some (.int .u8 (bv (g8 b k))) := by
        have := hB.cell k (by rw [upd_len]; exact hlt)
        rw [upd_at _ _ _ _ hlt, if_neg (by omega)] at this
        exact this
      have f1 : wr.frozen? ⟨g, k, none⟩ = false := hB.free k
      have HB := Lib.hid hB; clear hB
      have HM := Lib.hid hM; clear hM
      have HN := Lib.hid hN; clear hN
      have HG := Lib.hid hG; clear hG
      have ht : decide ((k : Int) < 16) = true := by simp; omega
      have hti : (k : Int) < 16 := by omega
      go_wp2
      obtain ⟨wo, hwo⟩ : ∃ wo : World, wo = wr := ⟨_, rfl⟩
      subst hwo
      go_loopw [24] (fun i wr => ∃ j : Nat, j ≤ 4 ∧ i = .int .i64 j ∧ Blk wr g T ((upd (fun i => colTo m b i 4) b k).set k (colTo m b k j)) ∧ Blk wr n 165 m ∧ Blk wr (n + 1) 41 b ∧ w.grownBy wr (some g)) (fun i _ => 4 - (intOf i).toNat)
      case atStart => exact ⟨0, by omega, rfl, HB.out.set k 0, HM.out.old (grown_set (grown_refl _ (some g)) _ _) (by simp [hne]), HN.out.old (grown_set (grown_refl _ (some g)) _ _) (by simp [hne1]), grown_set HG.out _ _⟩
      case round =>
        clear HB HM HN HG c2 f1
        obtain ⟨j, hj, rfl, hB, hM, hN, hG⟩ := hrel
        by_cases hjt : j < 4
        · have c1 : wr.cell? ⟨g, k, none⟩ = some (.int .u8 (bv (colTo m b k j))) := by
            have := hB.cell k (by simp [upd_len]; exact hlt)
            rw [show g8 ((upd (fun i => colTo m b i 4) b k).set k (colTo m b k j)) k = colTo m b k j by simp [g8, upd_len, hlt]] at this
            exact this
          have c2 : wr.cell? ⟨n, j, none⟩ = some (.int .u8 (bv (g8 m j))) := hM.cell j (by omega)
          have c3 : wr.cell? ⟨n + 1, k / 4 * 4 + (k % 4 + j) % 4, none⟩ = some (.int .u8 (bv (g8 b (k / 4 * 4 + (k % 4 + j) % 4)))) := hN.cell _ (by omega)
          have f1 : wr.frozen? ⟨g, k, none⟩ = false := hB.free k
          have HB := Lib.hid hB; clear hB
          have HM := Lib.hid hM; clear hM
          have HN := Lib.hid hN; clear hN
          have HG := Lib.hid hG; clear hG
          have e1 : IntKind.i64.wrap ((k : Int) % 4 + (j : Int)) = (k : Int) % 4 + (j : Int) := IntWalk.i64_in _ (by omega)
          have e2 : ((k : Int) % 4 + (j : Int)).tmod 4 = ((k : Int) + (j : Int)) % 4 := by rw [Int.tmod_eq_emod_of_nonneg (by omega)]; omega
          have e3 : IntKind.i64.wrap ((k : Int) / 4 * 4 + ((k : Int) + (j : Int)) % 4) = (k : Int) / 4 * 4 + ((k : Int) + (j : Int)) % 4 := IntWalk.i64_in _ (by omega)
          have b1 : (0 : Int) ≤ (k : Int) / 4 * 4 + ((k : Int) + (j : Int)) % 4 := by omega
          have b2 : (k : Int) / 4 * 4 + ((k : Int) + (j : Int)) % 4 < 16 := by omega
          have e4 : ((k : Int) / 4 * 4 + ((k : Int) + (j : Int)) % 4).toNat = k / 4 * 4 + (k + j) % 4 := by omega
          rw [show (k % 4 + j) % 4 = (k + j) % 4 by omega] at c3
          go_wp2
          go_still_tail 19, (by kernel_rfl)
          still_call ((mul_any _ _ _).mono fun _ _ ⟨h1, h2⟩ => ⟨h1, h2.symm⟩)
          repeat still_step
          refine wpStill_nil ?_
          change wpList _ _ _ _ _ wr.drew
          clear e1 e2 e3 e4 b1 b2
          go_wp2
          go_roundw
          case rel =>
            refine ⟨j + 1, by omega, by go_num, ?_, (HM.out.old (grown_set (grown_refl _ (some g)) _ _) (by simp [hne])).drew, (HN.out.old (grown_set (grown_refl _ (some g)) _ _) (by simp [hne1])).drew, grown_drew (grown_set HG.out _ _)⟩
            have := (HB.out.set k (colTo m b k (j + 1))).drew
            simp only [colTo, show (k % 4 + j) % 4 = (k + j) % 4 by omega] at this ⊢
            rw [List.set_set] at this
            exact this
          case measure => simp [intOf]; omega
        · have h4 : j = 4 := by omega
          have H4 := Lib.hid h4; clear h4
          have HB := Lib.hid hB; clear hB
          have HM := Lib.hid hM; clear hM
          have HN := Lib.hid hN; clear hN
          have HG := Lib.hid hG; clear hG
          go_wp2
          go_roundw
          case rel =>
            refine ⟨k + 1, by omega, by go_num, ?_, HM.out, HN.out, HG.out⟩
            rw [← upd_set _ _ _ hlt]
            have := HB.out
            rw [H4.out] at this
            exact this
          case measure => simp [intOf]; omega
    · obtain rfl : k = 16 := by omega
      have HB := Lib.hid hB; clear hB
      have HG := Lib.hid hG; clear hG hN hM
      go_wp2
      go_end0
      exact ⟨rfl, HB.out, HG.out⟩
end Go.Proofs.YtbbfjlnkhenbiaaDoor
