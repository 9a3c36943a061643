/- mode.Xor in all its cases. -/
import Derived.Test.YtbbfjlnkhenbiaaGreatDoorKB4
import Derived.Test.YtbbfjlnkhenbiaaGreatDoorKB5
import Derived.Test.YtbbfjlnkhenbiaaGreatDoorKB8
import Derived.Test.YtbbfjlnkhenbiaaGreatDoorKB7
set_option linter.unusedVariables false
set_option linter.unusedSimpArgs false
namespace Lk
open Go Go.RowKit
theorem blk_own {w : World} {g base : Nat} {l : List UInt8} (h : Blk w g u8t l) (hb : base ≤ g) (hl : l.length ≤ 1000000) : Own w base (.slice (some ⟨g, 0, none⟩) l.length l.length) l :=
  ⟨by rw [Bl_len, Nat.mul_one], .inr ⟨g, l.length, Bs l, rfl, hb, h, Nat.le_refl _, by unfold maxLen; omega, by rw [Bs_size, Nat.mul_one], by
    rw [Nat.mul_one]
    unfold Bl Bs
    exact List.take_of_length_le (by simp)⟩⟩
end Lk
namespace Go.Proofs.YtbbfjlnkhenbiaaGreatDoor
open Go.RowKit Lk
set_option maxHeartbeats 800000 in
set_option maxRecDepth 100000 in
theorem Xor_pos (va vb : Value) (a b : List UInt8) (w : World) (ha : SlB w va a) (hb : SlB w vb b) (hab : a.length = b.length) (h0 : 0 < a.length) (hmx : a.length ≤ 1000000) :
    Calls Tryz.prog 48 #[va, vb] w fun e w' => ∃ v, e = .returned (.tuple #[v, .nilIface]) ∧ Own w' w.heap.size v (pxor a b) ∧ Below w.heap.size w w' := by
  obtain ⟨n, hn⟩ : ∃ n, w.heap.size = n := ⟨_, rfl⟩
  have Hn := Lib.hid hn
  obtain ⟨A, ca, rfl, _, hlca, hcma, hra⟩ := ha
  obtain ⟨B, cb, rfl, _, hlcb, hcmb, hrb⟩ := hb
  obtain ⟨ga, oa, rfl, hrda⟩ := hra (by omega)
  obtain ⟨gb, ob, rfl, hrdb⟩ := hrb (by omega)
  have hgan : ga < n := by rw [← hn]; exact block_of_cell (hrda 0 h0)
  have hgbn : gb < n := by rw [← hn]; exact block_of_cell (hrdb 0 (by omega))
  rw [← hab]
  obtain ⟨m, em⟩ : ∃ m, a.length = m := ⟨_, rfl⟩
  have EM := Lib.hid em
  have EMB := Lib.hid (show b.length = m by omega)
  have HA := Lib.hid hrda
  have HB := Lib.hid hrdb
  rw [em] at hlca hmx h0 ⊢
  rw [← hab, em] at hlcb
  have HMX := Lib.hid hmx
  clear hra hrb hrda hrdb hab em
  go_enter Tryz.func48, Tryz.ntmps48
  go_wp2_with (refine make_new rfl 22 5 _ _ rfl m (by kernel_rfl) (by kernel_rfl) .i64 .i64 rfl rfl (by omega) ?_; intro w1 hB1 hG1 hs1)
  have hL1 : Below n w w1 := below_none (Below.refl n w) (by omega) hG1
  have hB1' : Blk w1 n 5 (xorTo a b 0) := by rw [xorTo_zero, EM.out]; rw [hn] at hB1; exact hB1
  have hsz : n + 1 ≤ w1.heap.size := by omega
  clear hB1 hG1 hs1 hn
  go_loopw [19] (fun i wr => ∃ k : Nat, k ≤ m ∧ i = .int .i64 k ∧ Blk wr n 5 (xorTo a b k) ∧ Below n w wr ∧ n + 1 ≤ wr.heap.size) (fun i _ => m - (intOf i).toNat)
  case atStart => exact ⟨0, by omega, rfl, hB1', hL1, hsz⟩
  case round =>
    clear hB1' hL1 hsz
    obtain ⟨k, hk, rfl, hB, hL, hsz⟩ := hrel
    by_cases hlt : k < m
    · have c1 : wr.cell? ⟨ga, oa + k, none⟩ = some (.int .u8 (bv (g8 a k))) := cell_below (HA.out k (by rw [EM.out]; exact hlt)) hL hgan
      have c2 : wr.cell? ⟨gb, ob + k, none⟩ = some (.int .u8 (bv (g8 b k))) := cell_below (HB.out k (by rw [EMB.out]; exact hlt)) hL hgbn
      have c3 : wr.cell? ⟨n, k, none⟩ = some (.int .u8 (bv (g8 (xorTo a b k) k))) := hB.cell k (by rw [xorTo_len, EM.out]; exact hlt)
      have f3 : wr.frozen? ⟨n, k, none⟩ = false := hB.free k
      have HBl := Lib.hid hB
      have HL := Lib.hid hL
      have HLT := Lib.hid hlt
      clear hB hL
      go_wp2
      go_region
      go_wp2
      go_roundw
      case rel =>
        have hG : wr.grownBy ((wr.setCell ⟨n, k, none⟩ (.int .u8 (bv (g8 a k ^^^ g8 b k)))).drew) (some n) := grown_drew (grown_set (grown_refl _ _) _ _)
        refine ⟨k + 1, HLT.out, by go_num, ?_, below_new HL.out (by omega) hG (by omega), by show n + 1 ≤ (wr.setCell _ _).heap.size; rw [World.size_setCell]; exact hsz⟩
        rw [← xorTo_set a b k (by rw [EM.out]; exact HLT.out)]
        exact (HBl.out.set k _).drew
      case measure => have : k < m := HLT.out; simp [intOf]; omega
    · have HE := Lib.hid (show k = m by omega)
      have HBl := Lib.hid hB
      have HL := Lib.hid hL
      clear hB hL
      go_wp2
      go_ret2
      refine ⟨_, rfl, ?_, ?_⟩
      · have h1 := HBl.out
        rw [HE.out] at h1
        have h2 : Blk wr n u8t (pxor a b) := by unfold pxor; rw [EM.out]; exact h1
        have h3 := blk_own (base := n) h2 (Nat.le_refl _) (by rw [pxor_len, EM.out]; exact HMX.out)
        rw [pxor_len, EM.out] at h3
        rw [Hn.out]
        exact h3
      · rw [Hn.out]; exact HL.out
set_option maxHeartbeats 800000 in
set_option maxRecDepth 100000 in
theorem Xor_zero (va vb : Value) (w : World) (ha : SlB w va []) (hb : SlB w vb []) :
    Calls Tryz.prog 48 #[va, vb] w fun e w' => ∃ v, e = .returned (.tuple #[v, .nilIface]) ∧ Own w' w.heap.size v [] ∧ Below w.heap.size w w' := by
  obtain ⟨A, ca, rfl, _, hlca, hcma, _⟩ := ha
  obtain ⟨B, cb, rfl, _, hlcb, hcmb, _⟩ := hb
  rw [List.length_nil] at hlca hlcb ⊢
  go_enter Tryz.func48, Tryz.ntmps48
  go_wp2_with (refine make_new rfl 22 5 _ _ rfl 0 (by kernel_rfl) (by kernel_rfl) .i64 .i64 rfl rfl (by omega) ?_; intro w1 hB1 hG1 hs1)
  have HO := Lib.hid (blk_own (base := w.heap.size) hB1 (Nat.le_refl _) (by simp))
  have HL := Lib.hid (below_none (Below.refl w.heap.size w) (Nat.le_refl _) hG1)
  clear hB1 hG1 hs1
  refine wp_loop_rounds 1 ?_
  rw [rounds_succ]
  go_wp2
  go_ret2
  exact ⟨_, rfl, HO.out, HL.out⟩
/-- of like lengths -/
theorem Xor_own (va vb : Value) (a b : List UInt8) (w : World) (ha : SlB w va a) (hb : SlB w vb b) (hab : a.length = b.length) (hmx : a.length ≤ 1000000) :
    Calls Tryz.prog 48 #[va, vb] w fun e w' => ∃ v, e = .returned (.tuple #[v, .nilIface]) ∧ Own w' w.heap.size v (pxor a b) ∧ Below w.heap.size w w' := by
  rcases Nat.eq_zero_or_pos a.length with h | h
  · have ea : a = [] := List.eq_nil_of_length_eq_zero h
    have eb : b = [] := List.eq_nil_of_length_eq_zero (by omega)
    subst ea eb
    exact Xor_zero va vb w ha hb
  · exact Xor_pos va vb a b w ha hb hab h hmx
set_option maxRecDepth 100000 in
/-- of unlike lengths -/
theorem Xor_no (va vb : Value) (a b : List UInt8) (w : World) (ha : SlB w va a) (hb : SlB w vb b) (hab : a.length ≠ b.length) :
    Calls Tryz.prog 48 #[va, vb] w fun e w' => e = .returned (.tuple #[.slice none 0 0, .iface 91 (.int .i64 2)]) ∧ w' = w := by
  obtain ⟨A, ca, rfl, _, hlca, hcma, _⟩ := ha
  obtain ⟨B, cb, rfl, _, hlcb, hcmb, _⟩ := hb
  generalize a.length = n at *
  generalize b.length = m at *
  have h' : ((n : Int) != (m : Int)) = true := by simp; omega
  go_enter Tryz.func48, Tryz.ntmps48
  go_wp2
  go_ret2
  exact ⟨rfl, rfl⟩
end Go.Proofs.YtbbfjlnkhenbiaaGreatDoor
set_option linter.unusedVariables false
set_option linter.unusedSimpArgs false
namespace Lk
open Go Go.RowKit
def gl (ls : List (List UInt8)) (k : Nat) : List UInt8 := ls.getD k []
def xorPre (ls : List (List UInt8)) : Nat → List UInt8
  | 0 => []
  | k + 1 => if k = 0 then gl ls 0 else pxor (xorPre ls k) (gl ls k)
def pjoin (kind : Int) (ls : List (List UInt8)) : List UInt8 := if kind = 2 then podds (xorPre ls ls.length) else xorPre ls ls.length
def badFrom (kind : Int) (m : Nat) : List (List UInt8) → Nat → Option Nat
  | [], _ => none
  | l :: r, i => if psz kind l.length ≠ 0 ∨ l.length ≠ m then some i else badFrom kind m r (i + 1)
def pbad (kind : Int) (ls : List (List UInt8)) : Option Nat := badFrom kind (gl ls 0).length ls 0
theorem gl_get (ls : List (List UInt8)) (k : Nat) (h : k < ls.length) : ls[k]? = some (gl ls k) := by
  unfold gl; rw [List.getElem?_eq_getElem h, List.getD_eq_getElem?_getD, List.getElem?_eq_getElem h]; rfl
theorem gl_drop (ls : List (List UInt8)) (k : Nat) (h : k < ls.length) : ls.drop k = gl ls k :: ls.drop (k + 1) := by
  rw [List.drop_eq_getElem_cons h]; congr 1
  unfold gl; rw [List.getD_eq_getElem?_getD, List.getElem?_eq_getElem h]; rfl
theorem bad_yes (kind : Int) (m : Nat) (ls : List (List UInt8)) (k : Nat) (h : k < ls.length) (hb : psz kind (gl ls k).length ≠ 0 ∨ (gl ls k).length ≠ m) : badFrom kind m (ls.drop k) k = some k := by
  rw [gl_drop ls k h, badFrom, if_pos hb]
theorem bad_no (kind : Int) (m : Nat) (ls : List (List UInt8)) (k : Nat) (h : k < ls.length) (h1 : psz kind (gl ls k).length = 0) (h2 : (gl ls k).length = m) : badFrom kind m (ls.drop k) k = badFrom kind m (ls.drop (k + 1)) (k + 1) := by
  rw [gl_drop ls k h, badFrom, if_neg (fun h => h.elim (fun x => x h1) (fun x => x h2))]
theorem bad_end (kind : Int) (m : Nat) (ls : List (List UInt8)) (k : Nat) (h : ls.length ≤ k) : badFrom kind m (ls.drop k) k = none := by
  rw [List.drop_eq_nil_of_le h, badFrom]
theorem psz_02 {kind : Int} (h : kind = 1 ∨ kind = 2) (n : Nat) : psz kind n = 0 ∨ psz kind n = 2 := by
  unfold psz
  rw [if_neg (by omega)]
  split <;> simp
end Lk
namespace Go.Proofs.YtbbfjlnkhenbiaaGreatDoor
open Go.RowKit Lk
/-- what part.Join comes to -/
def JoinR (w : World) (N : Nat) (kind : Int) (ls : List (List UInt8)) (v u : Value) : Prop :=
  match pbad kind ls with
  | some i => v = .slice none 0 0 ∧ ErV w [(i : Int)] 2 u
  | none => u = .nilIface ∧ Own w N v (pjoin kind ls)
theorem JoinR.bad {w : World} {N : Nat} {kind : Int} {ls : List (List UInt8)} {u : Value} {i : Nat} (h : pbad kind ls = some i) (he : ErV w [(i : Int)] 2 u) : JoinR w N kind ls (.slice none 0 0) u := by
  unfold JoinR; rw [h]; exact ⟨rfl, he⟩
theorem JoinR.ok {w : World} {N : Nat} {kind : Int} {ls : List (List UInt8)} {v : Value} (h : pbad kind ls = none) (ho : Own w N v (pjoin kind ls)) : JoinR w N kind ls v .nilIface := by
  unfold JoinR; rw [h]; exact ⟨rfl, ho⟩
theorem er_alloc (w : World) (k : Nat) (z : Int) (u : Value) (hu : u = .iface 91 (.int .i64 z)) : ErV (w.alloc (.cells #[.int .i64 (k : Int), u] 100)) [(k : Int)] z (.iface 97 (.pointer (some ⟨w.heap.size, 0, none⟩))) :=
  ⟨w.heap.size, u, rfl, heap_alloc_new w _, hu⟩
end Go.Proofs.YtbbfjlnkhenbiaaGreatDoor
set_option linter.unusedVariables false
set_option linter.unusedSimpArgs false
namespace Lk
open Go Go.RowKit
def pvalue (kind : Nat) (key : List UInt8) : List UInt8 := if kind = 2 then (ptriple key (List.replicate 8 0) false).take 3 else (pcmac 1 key (List.replicate 16 0)).take 3
theorem psz_fits1 {n : Nat} (h : psz 1 n = 0) : pfits 1 n = true := by
  unfold psz at h; unfold pfits
  rw [if_neg (by omega)] at h
  split at h
  · rename_i hh; simp; omega
  · omega
theorem psz_fits2 {n : Nat} (h : psz 2 n = 0) : pfits 2 n = true := by
  unfold psz at h; unfold pfits
  rw [if_neg (by omega)] at h
  split at h
  · rename_i hh; simp; omega
  · omega
end Lk
namespace Go.Proofs.YtbbfjlnkhenbiaaGreatDoor
open Go.RowKit Lk
end Go.Proofs.YtbbfjlnkhenbiaaGreatDoor
set_option linter.unusedVariables false
set_option linter.unusedSimpArgs false
namespace Lk
open Go Go.RowKit
def xAt (ls : List (List UInt8)) (i : Nat) : Nat → UInt8
  | 0 => 0
  | k + 1 => xAt ls i k ^^^ g8 (gl ls k) i
theorem xorPre_len (ls : List (List UInt8)) (m : Nat) (hl : ∀ k, k < ls.length → (gl ls k).length = m) (hn : 0 < ls.length) : ∀ k, (xorPre ls (k + 1)).length = m
  | 0 => hl 0 hn
  | k + 1 => by
    rw [xorPre, if_neg (by omega), pxor_len]
    exact xorPre_len ls m hl hn k
theorem xAt_pre (ls : List (List UInt8)) (m i : Nat) (hi : i < m) (hl : ∀ k, k < ls.length → (gl ls k).length = m) (hn : 0 < ls.length) : ∀ k, k < ls.length → xAt ls i (k + 1) = g8 (xorPre ls (k + 1)) i
  | 0, _ => by simp [xAt, xorPre]
  | k + 1, hk => by
    rw [xAt, xAt_pre ls m i hi hl hn k (by omega)]
    rw [show xorPre ls (k + 1 + 1) = pxor (xorPre ls (k + 1)) (gl ls (k + 1)) from by rw [xorPre, if_neg (by omega)]]
    rw [pxor_at _ _ i (by rw [xorPre_len ls m hl hn k]; exact hi)]
end Lk
namespace Go.Proofs.YtbbfjlnkhenbiaaGreatDoor
open Go.RowKit Lk
end Go.Proofs.YtbbfjlnkhenbiaaGreatDoor
set_option linter.unusedVariables false
set_option linter.unusedSimpArgs false
namespace Lk
open Go Go.RowKit
def z16 : List UInt8 := List.replicate 16 0
def o16 : List UInt8 := List.replicate 16 1
theorem ev_odds : podds z16 = o16 := by decide +kernel
theorem ev_value : pvalue 2 z16 = [140, 166, 77] := by decide +kernel
theorem ev_join : pjoin 1 [z16, o16] = o16 := by decide +kernel
theorem ev_bad : pbad 1 [z16, o16] = none := by decide +kernel
end Lk
namespace Go.Proofs.YtbbfjlnkhenbiaaGreatDoor
open Lk
theorem ev_rz : pright 2 z16 = some ([0], 3) := by decide +kernel
theorem ev_ro : pright 2 o16 = none := by decide +kernel
end Go.Proofs.YtbbfjlnkhenbiaaGreatDoor
set_option linter.unusedVariables false
set_option linter.unusedSimpArgs false
namespace Go.Proofs.YtbbfjlnkhenbiaaGreatDoor
open Go.RowKit Lk
theorem slSl_two {w : World} {g1 g2 n c1 c2 : Nat} {a b : List UInt8} (h1 : SlB w (.slice (some ⟨g1, 0, none⟩) n c1) a) (h2 : SlB w (.slice (some ⟨g2, 0, none⟩) n c2) b) :
    SlSl (w.alloc (.cells #[.slice (some ⟨g1, 0, none⟩) n c1, .slice (some ⟨g2, 0, none⟩) n c2] 22)) (.slice (some ⟨w.heap.size, 0, none⟩) 2 2) [a, b] := by
  refine ⟨[_, _], slV_lit w [.slice (some ⟨g1, 0, none⟩) n c1, .slice (some ⟨g2, 0, none⟩) n c2] 2 _ rfl (by decide), rfl, fun k l hk => ?_⟩
  rcases k with _ | _ | k
  · obtain rfl : a = l := by simpa using hk
    exact ⟨_, rfl, h1.alloc _⟩
  · obtain rfl : b = l := by simpa using hk
    exact ⟨_, rfl, h2.alloc _⟩
  · simp at hk
end Go.Proofs.YtbbfjlnkhenbiaaGreatDoor
