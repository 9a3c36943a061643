/- The block cipher AES: the four turns of a block. -/
import Derived.Test.YtjbdhnmkeaogcaaOps
import Derived.Test.YtjbdhnmkeaogcaaGfW
import Derived.IntWalk
set_option linter.unusedVariables false
set_option linter.unusedSimpArgs false
namespace Go.Proofs.Ytjbdhnmkeaogcaa
open Go.RowKit Lk
/-- the first k bytes are turned -/
def upd (f : Nat → UInt8) (b : List UInt8) (k : Nat) : List UInt8 := (List.range 16).map fun i => if i < k then f i else g8 b i
theorem upd_len (f : Nat → UInt8) (b : List UInt8) (k : Nat) : (upd f b k).length = 16 := by simp [upd]
theorem upd_zero (f : Nat → UInt8) (b : List UInt8) (hb : b.length = 16) : upd f b 0 = b := by
  apply List.ext_getElem
  · rw [upd_len, hb]
  · intro i h1 h2
    simp [upd, g8, h2]
theorem upd_at (f : Nat → UInt8) (b : List UInt8) (k i : Nat) (hi : i < 16) : g8 (upd f b k) i = if i < k then f i else g8 b i := by
  simp [upd, g8, hi]
theorem upd_set (f : Nat → UInt8) (b : List UInt8) (k : Nat) (hk : k < 16) : (upd f b k).set k (f k) = upd f b (k + 1) := by
  apply List.ext_getElem
  · simp [upd]
  · intro i h1 h2
    rw [List.getElem_set]
    simp only [upd, List.getElem_map, List.getElem_range]
    by_cases h : k = i
    · subst h; rw [if_pos rfl, if_pos (by omega)]
    · rw [if_neg h]
      by_cases h3 : i < k
      · rw [if_pos h3, if_pos (by omega)]
      · rw [if_neg h3, if_neg (by omega)]
def pwith (b ws : List UInt8) (r : Nat) : List UInt8 := upd (fun i => g8 b i ^^^ g8 ws (16 * r + i)) b 16
set_option maxHeartbeats 400000 in
set_option maxRecDepth 100000 in
theorem with_any (g T gw ow c r : Nat) (b ws : List UInt8) (w : World) (hg : Blk w g T b) (hb : b.length = 16) (hw : Rd w gw ow ws) (hne : gw ≠ g) (hr : 16 * r + 16 ≤ ws.length) (hl : ws.length ≤ 1000) :
    Calls Try.prog 63 #[.pointer (some ⟨g, 0, none⟩), .slice (some ⟨gw, ow, none⟩) ws.length c, .int .i64 r] w fun e w' =>
      e = .returned (.tuple #[]) ∧ Blk w' g T (pwith b ws r) ∧ w.grownBy w' (some g) := by
  go_enter Try.func63, Try.ntmps63
  go_wp2
  go_loopw [7] (fun i wr => ∃ k : Nat, k ≤ 16 ∧ i = .int .i64 k ∧ Blk wr g T (upd (fun i => g8 b i ^^^ g8 ws (16 * r + i)) b k) ∧ w.grownBy wr (some g)) (fun i _ => 16 - (intOf i).toNat)
  case atStart => exact ⟨0, by omega, rfl, by rw [upd_zero _ _ hb]; exact hg, grown_refl _ _⟩
  case round =>
    obtain ⟨k, hk, rfl, hB, hG⟩ := hrel
    by_cases hlt : k < 16
    · have c1 : wr.cell? ⟨g, k, none⟩ = some (.int .u8 (bv (g8 b k))) := by
        have := hB.cell k (by rw [upd_len]; exact hlt)
        rw [upd_at _ _ _ _ hlt, if_neg (by omega)] at this
        exact this
      have c2 : wr.cell? ⟨gw, ow + (16 * r + k), none⟩ = some (.int .u8 (bv (g8 ws (16 * r + k)))) := cell_old (hw.cell _ (by omega)) hG (by simp [hne.symm])
      have f1 : wr.frozen? ⟨g, k, none⟩ = false := hB.free k
      have HB := Lib.hid hB; clear hB
      have HG := Lib.hid hG; clear hG hg hw
      go_wp2
      go_region
      go_wp2
      go_roundw
      case rel =>
        refine ⟨k + 1, by omega, by go_num, ?_, grown_drew (grown_set HG.out _ _)⟩
        rw [← upd_set _ _ _ hlt]
        exact (HB.out.set k _).drew
      case measure => simp [intOf]; omega
    · obtain rfl : k = 16 := by omega
      have HB := Lib.hid hB; clear hB
      have HG := Lib.hid hG; clear hG hg hw
      go_wp2
      go_end0
      exact ⟨rfl, HB.out, HG.out⟩
/-- the i-th byte of rows that are turned -/
def prowsAt (b : List UInt8) (t i : Nat) : UInt8 := g8 b ((i + 4 * (i % 4) * t) % 16)
def prows (b : List UInt8) (t : Nat) : List UInt8 := upd (prowsAt b t) b 16
def pboxes (f : UInt8 → UInt8) (b : List UInt8) : List UInt8 := upd (fun i => f (g8 b i)) b 16
set_option maxHeartbeats 400000 in
set_option maxRecDepth 100000 in
theorem boxes_any (g T : Nat) (F : Nat) (f : UInt8 → UInt8) (hf : ∀ x w, Calls Try.prog F #[.int .u8 (bv x)] w fun e w' => e = .returned (.int .u8 (bv (f x))) ∧ Drawn w w') (b : List UInt8) (w : World) (hF : ∀ args (w : World), (callFunc F args).run Try.prog w = .ok (.enter F args) w) (hg : Blk w g T b) (hb : b.length = 16) :
    Calls Try.prog 66 #[.pointer (some ⟨g, 0, none⟩), .func (.func F) #[] #[]] w fun e w' =>
      e = .returned (.tuple #[]) ∧ Blk w' g T (pboxes f b) ∧ w.grownBy w' (some g) := by
  have Hf := Lib.hid hf; clear hf
  go_enter Try.func66, Try.ntmps66
  go_wp2
  go_loopw [5] (fun i wr => ∃ k : Nat, k ≤ 16 ∧ i = .int .i64 k ∧ Blk wr g T (upd (fun i => f (g8 b i)) b k) ∧ w.grownBy wr (some g)) (fun i _ => 16 - (intOf i).toNat)
  case atStart => exact ⟨0, by omega, rfl, by rw [upd_zero _ _ hb]; exact hg, grown_refl _ _⟩
  case round =>
    obtain ⟨k, hk, rfl, hB, hG⟩ := hrel
    by_cases hlt : k < 16
    · have c1 : wr.cell? ⟨g, k, none⟩ = some (.int .u8 (bv (g8 b k))) := by
        have := hB.cell k (by rw [upd_len]; exact hlt)
        rw [upd_at _ _ _ _ hlt, if_neg (by omega)] at this
        exact this
      have f1 : wr.frozen? ⟨g, k, none⟩ = false := hB.free k
      have HB := Lib.hid hB; clear hB
      have HG := Lib.hid hG; clear hG hg
      go_wp2
      go_region_with (refine (Hf.out _ _).mono ?_; rintro e w' ⟨rfl, ⟨n, rfl⟩⟩)
      all_goals
        go_wp2
        go_roundw
        case rel =>
          refine ⟨k + 1, by omega, by go_num, ?_, ?_⟩
          · rw [← upd_set _ _ _ hlt]
            exact HB.out.set k _
          · exact grown_set (grown_drewN HG.out _) _ _
        case measure => simp [intOf]; omega
    · obtain rfl : k = 16 := by omega
      have HB := Lib.hid hB; clear hB
      have HG := Lib.hid hG; clear hG hg
      go_wp2
      go_end0
      exact ⟨rfl, HB.out, HG.out⟩
/-- the index in the form in which a walk writes it -/
theorem rows_ix (k t : Nat) : (((k : Int) + 4 * ((k : Int) % 4) * (t : Int)) % 16) = (((k + 4 * (k % 4) * t) % 16 : Nat) : Int) := by push_cast; rfl
set_option maxHeartbeats 800000 in
set_option maxRecDepth 100000 in
theorem rows_any (g T t : Nat) (b : List UInt8) (w : World) (hg : Blk w g T b) (hb : b.length = 16) (ht : t = 1 ∨ t = 3) :
    Calls Try.prog 65 #[.pointer (some ⟨g, 0, none⟩), .int .i64 t] w fun e w' =>
      e = .returned (.tuple #[]) ∧ Blk w' g T (prows b t) ∧ w.grownBy w' (some g) := by
  go_enter Try.func65, Try.ntmps65
  have hgl := hg.lt
  go_wp2_with (first
    | (refine load_blk rfl 40 _ rfl g T 16 5 b rfl hg hb (by kernel_rfl) (by kernel_rfl) ?_)
    | (refine alloc_row rfl 40 rfl (.agg (Bs (List.replicate 16 0))) 16 (fun _ => by kernel_rfl) rfl ?_; intro w1 hR1 _ hG1 hs1)
    | (refine store_blk rfl 40 _ _ rfl w.heap.size 40 16 b rfl rfl hR1 hb (by kernel_rfl) ?_; intro w2 hB2 hG2 hs2))
  have hB : Blk w2 g T b := (hg.old hG1 (by simp)).old hG2 (by simp; omega)
  have hG : w.grownBy w2 (some g) := by
    refine ⟨hG2.os.trans hG1.os, hG2.tape.trans hG1.tape, hG2.output.trans hG1.output, by omega, fun i hi hr => ?_⟩
    rw [hG2.block i (by omega) (by simp; omega)]
    exact hG1.block i hi (by simp)
  clear hG1 hG2 hR1 hg
  obtain ⟨n, hn⟩ : ∃ n, w.heap.size = n := ⟨_, rfl⟩
  rw [hn] at hB2 hgl ⊢
  have hne : g ≠ n := by omega
  clear hs1 hs2 hn
  go_loopw [10] (fun i wr => ∃ k : Nat, k ≤ 16 ∧ i = .int .i64 k ∧ Blk wr g T (upd (prowsAt b t) b k) ∧ Blk wr n 40 b ∧ w.grownBy wr (some g)) (fun i _ => 16 - (intOf i).toNat)
  case atStart => exact ⟨0, by omega, rfl, by rw [upd_zero _ _ hb]; exact hB, hB2, hG⟩
  case round =>
    clear hB hB2 hG
    obtain ⟨k, hk, rfl, hB, hN, hG⟩ := hrel
    by_cases hlt : k < 16
    · have c1 : wr.cell? ⟨n, (k + 4 * (k % 4) * t) % 16, none⟩ = some (.int .u8 (bv (prowsAt b t k))) := hN.cell _ (by omega)
      have c2 : wr.cell? ⟨g, k, none⟩ = some (.int .u8 (bv (g8 b k))) := by
        have := hB.cell k (by rw [upd_len]; exact hlt)
        rw [upd_at _ _ _ _ hlt, if_neg (by omega)] at this
        exact this
      have f1 : wr.frozen? ⟨g, k, none⟩ = false := hB.free k
      have HB := Lib.hid hB; clear hB
      have HN := Lib.hid hN; clear hN
      have HG := Lib.hid hG; clear hG
      obtain ⟨x, hx⟩ : ∃ x, prowsAt b t k = x := ⟨_, rfl⟩
      rw [hx] at c1
      have HX := Lib.hid hx; clear hx
      rcases ht with rfl | rfl
      · rw [Nat.mul_one] at c1
        go_wp2
        go_region
        go_wp2
        go_roundw
        case rel =>
          refine ⟨k + 1, by omega, by go_num, ?_, ((HN.out.old (grown_set (grown_refl _ (some g)) _ _) (by simp [hne])).drew), grown_drew (grown_set HG.out _ _)⟩
          rw [← upd_set _ _ _ hlt, HX.out]
          exact (HB.out.set k _).drew
        case measure => simp [intOf]; omega
      · go_wp2
        go_region
        go_wp2
        go_roundw
        case rel =>
          refine ⟨k + 1, by omega, by go_num, ?_, ((HN.out.old (grown_set (grown_refl _ (some g)) _ _) (by simp [hne])).drew), grown_drew (grown_set HG.out _ _)⟩
          rw [← upd_set _ _ _ hlt, HX.out]
          exact (HB.out.set k _).drew
        case measure => simp [intOf]; omega
    · obtain rfl : k = 16 := by omega
      have HB := Lib.hid hB; clear hB
      have HG := Lib.hid hG; clear hG hN
      go_wp2
      go_end0
      exact ⟨rfl, HB.out, HG.out⟩
/-- a column's byte, of the first k of four products -/
def colTo (m b : List UInt8) (i : Nat) : Nat → UInt8
  | 0 => 0
  | k + 1 => colTo m b i k ^^^ gmul (g8 m k) (g8 b (i / 4 * 4 + (i % 4 + k) % 4))
def pcols (m b : List UInt8) : List UInt8 := upd (fun i => colTo m b i 4) b 16
set_option maxHeartbeats 1600000 in
set_option maxRecDepth 100000 in
theorem columns_any (g T : Nat) (m b : List UInt8) (w : World) (hg : Blk w g T b) (hb : b.length = 16) (hm : m.length = 4) :
    Calls Try.prog 64 #[.pointer (some ⟨g, 0, none⟩), .agg (Bs m)] w fun e w' =>
      e = .returned (.tuple #[]) ∧ Blk w' g T (pcols m b) ∧ w.grownBy w' (some g) := by
  go_enter Try.func64, Try.ntmps64
  have hgl := hg.lt
  obtain ⟨n, hn⟩ : ∃ n, w.heap.size = n := ⟨_, rfl⟩
  have HN := Lib.hid hn
  go_wp2_with (first
    | (refine box_blk rfl 57 _ rfl m rfl ?_; intro w0 hM0 hG0 hs0)
    | (refine load_blk rfl 40 _ rfl g T 16 5 b rfl (hg.old hG0 (by simp)) hb (by kernel_rfl) (by kernel_rfl) ?_)
    | (refine alloc_row rfl 40 rfl (.agg (Bs (List.replicate 16 0))) 16 (fun _ => by kernel_rfl) rfl ?_; intro w1 hR1 _ hG1 hs1)
    | (refine store_blk rfl 40 _ _ rfl w0.heap.size 40 16 b rfl rfl hR1 hb (by kernel_rfl) ?_; intro w2 hB2 hG2 hs2))
  have hne : g ≠ n := by omega
  have hne1 : g ≠ n + 1 := by omega
  have hM : Blk w2 n 57 m := ((hn ▸ hM0).old hG1 (by simp)).old hG2 (by simp; omega)
  have hN : Blk w2 (n + 1) 40 b := by rw [hs0, hn] at hB2; exact hB2
  have hB : Blk w2 g T b := ((hg.old hG0 (by simp)).old hG1 (by simp)).old hG2 (by simp; omega)
  have hG : w.grownBy w2 (some g) := by
    refine ⟨hG2.os.trans (hG1.os.trans hG0.os), hG2.tape.trans (hG1.tape.trans hG0.tape), hG2.output.trans (hG1.output.trans hG0.output), by omega, fun i hi hr => ?_⟩
    rw [hG2.block i (by omega) (by simp; omega), hG1.block i (by omega) (by simp)]
    exact hG0.block i hi (by simp)
  clear hG0 hG1 hG2 hB2 hM0 hs0 hs1 hs2 hR1 hg hgl HN hn
  go_loopw [12] (fun i wr => ∃ k : Nat, k ≤ 16 ∧ i = .int .i64 k ∧ Blk wr g T (upd (fun i => colTo m b i 4) b k) ∧ Blk wr n 57 m ∧ Blk wr (n + 1) 40 b ∧ w.grownBy wr (some g)) (fun i _ => 16 - (intOf i).toNat)
  case atStart => exact ⟨0, by omega, rfl, by rw [upd_zero _ _ hb]; exact hB, hM, hN, hG⟩
  case round =>
    clear hB hM hN hG
    obtain ⟨k, hk, rfl, hB, hM, hN, hG⟩ := hrel
    by_cases hlt : k < 16
    · have c2 : wr.cell? ⟨g, k, none⟩ = some (.int .u8 (bv (g8 b k))) := by
        have := hB.cell k (by rw [upd_len]; exact hlt)
        rw [upd_at _ _ _ _ hlt, if_neg (by omega)] at this
        exact this
      have f1 : wr.frozen? ⟨g, k, none⟩ = false := hB.free k
      have HB := Lib.hid hB; clear hB
      have HM := Lib.hid hM; clear hM
      have HN := Lib.hid hN; clear hN
      have HG := Lib.hid hG; clear hG
      have ht : decide ((k : Int) < 16) = true := by simp; omega
      have hti : (k : Int) < 16 := by omega
      go_wp2
      obtain ⟨wo, hwo⟩ : ∃ wo : World, wo = wr := ⟨_, rfl⟩
      subst hwo
      go_loopw [24] (fun i wr => ∃ j : Nat, j ≤ 4 ∧ i = .int .i64 j ∧ Blk wr g T ((upd (fun i => colTo m b i 4) b k).set k (colTo m b k j)) ∧ Blk wr n 57 m ∧ Blk wr (n + 1) 40 b ∧ w.grownBy wr (some g)) (fun i _ => 4 - (intOf i).toNat)
      case atStart => exact ⟨0, by omega, rfl, HB.out.set k 0, HM.out.old (grown_set (grown_refl _ (some g)) _ _) (by simp [hne]), HN.out.old (grown_set (grown_refl _ (some g)) _ _) (by simp [hne1]), grown_set HG.out _ _⟩
      case round =>
        clear HB HM HN HG c2 f1
        obtain ⟨j, hj, rfl, hB, hM, hN, hG⟩ := hrel
        by_cases hjt : j < 4
        · have c1 : wr.cell? ⟨g, k, none⟩ = some (.int .u8 (bv (colTo m b k j))) := by
            have := hB.cell k (by simp [upd_len]; exact hlt)
            rw [show g8 ((upd (fun i => colTo m b i 4) b k).set k (colTo m b k j)) k = colTo m b k j by simp [g8, upd_len, hlt]] at this
            exact this
          have c2 : wr.cell? ⟨n, j, none⟩ = some (.int .u8 (bv (g8 m j))) := hM.cell j (by omega)
          have c3 : wr.cell? ⟨n + 1, k / 4 * 4 + (k % 4 + j) % 4, none⟩ = some (.int .u8 (bv (g8 b (k / 4 * 4 + (k % 4 + j) % 4)))) := hN.cell _ (by omega)
          have f1 : wr.frozen? ⟨g, k, none⟩ = false := hB.free k
          have HB := Lib.hid hB; clear hB
          have HM := Lib.hid hM; clear hM
          have HN := Lib.hid hN; clear hN
          have HG := Lib.hid hG; clear hG
          have e1 : IntKind.i64.wrap ((k : Int) % 4 + (j : Int)) = (k : Int) % 4 + (j : Int) := IntWalk.i64_in _ (by omega)
          have e2 : ((k : Int) % 4 + (j : Int)).tmod 4 = ((k : Int) + (j : Int)) % 4 := by rw [Int.tmod_eq_emod_of_nonneg (by omega)]; omega
          have e3 : IntKind.i64.wrap ((k : Int) / 4 * 4 + ((k : Int) + (j : Int)) % 4) = (k : Int) / 4 * 4 + ((k : Int) + (j : Int)) % 4 := IntWalk.i64_in _ (by omega)
          have b1 : (0 : Int) ≤ (k : Int) / 4 * 4 + ((k : Int) + (j : Int)) % 4 := by omega
          have b2 : (k : Int) / 4 * 4 + ((k : Int) + (j : Int)) % 4 < 16 := by omega
          have e4 : ((k : Int) / 4 * 4 + ((k : Int) + (j : Int)) % 4).toNat = k / 4 * 4 + (k + j) % 4 := by omega
          rw [show (k % 4 + j) % 4 = (k + j) % 4 by omega] at c3
          go_wp2
          go_still_tail 19, (by kernel_rfl)
          still_call ((mul_any _ _ _).mono fun _ _ ⟨h1, h2⟩ => ⟨h1, h2.symm⟩)
          repeat still_step
          refine wpStill_nil ?_
          change wpList _ _ _ _ _ wr.drew
          clear e1 e2 e3 e4 b1 b2
          go_wp2
          go_roundw
          case rel =>
            refine ⟨j + 1, by omega, by go_num, ?_, (HM.out.old (grown_set (grown_refl _ (some g)) _ _) (by simp [hne])).drew, (HN.out.old (grown_set (grown_refl _ (some g)) _ _) (by simp [hne1])).drew, grown_drew (grown_set HG.out _ _)⟩
            have := (HB.out.set k (colTo m b k (j + 1))).drew
            simp only [colTo, show (k % 4 + j) % 4 = (k + j) % 4 by omega] at this ⊢
            rw [List.set_set] at this
            exact this
          case measure => simp [intOf]; omega
        · have h4 : j = 4 := by omega
          have H4 := Lib.hid h4; clear h4
          have HB := Lib.hid hB; clear hB
          have HM := Lib.hid hM; clear hM
          have HN := Lib.hid hN; clear hN
          have HG := Lib.hid hG; clear hG
          go_wp2
          go_roundw
          case rel =>
            refine ⟨k + 1, by omega, by go_num, ?_, HM.out, HN.out, HG.out⟩
            rw [← upd_set _ _ _ hlt]
            have := HB.out
            rw [H4.out] at this
            exact this
          case measure => simp [intOf]; omega
    · obtain rfl : k = 16 := by omega
      have HB := Lib.hid hB; clear hB
      have HG := Lib.hid hG; clear hG hN hM
      go_wp2
      go_end0
      exact ⟨rfl, HB.out, HG.out⟩
end Go.Proofs.Ytjbdhnmkeaogcaa
