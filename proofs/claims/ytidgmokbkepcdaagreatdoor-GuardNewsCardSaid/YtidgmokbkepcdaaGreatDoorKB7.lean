/- mode.Xor in all its cases. -/
import Derived.Test.YtidgmokbkepcdaaGreatDoorKB4
import Derived.Test.YtidgmokbkepcdaaGreatDoorKB5
import Derived.Test.YtidgmokbkepcdaaGreatDoorKB6
import Derived.OneCell
set_option linter.unusedVariables false
set_option linter.unusedSimpArgs false
namespace Lk
open Go Go.RowKit
theorem blk_own {w : World} {g base : Nat} {l : List UInt8} (h : Blk w g u8t l) (hb : base ≤ g) (hl : l.length ≤ 1000000) : Own w base (.slice (some ⟨g, 0, none⟩) l.length l.length) l :=
  ⟨by rw [Bl_len, Nat.mul_one], .inr ⟨g, l.length, Bs l, rfl, hb, h, Nat.le_refl _, by unfold maxLen; omega, by rw [Bs_size, Nat.mul_one], by
    rw [Nat.mul_one]
    unfold Bl Bs
    exact List.take_of_length_le (by simp)⟩⟩
end Lk
namespace Go.Proofs.YtidgmokbkepcdaaGreatDoor
open Go.RowKit Lk
set_option maxHeartbeats 800000 in
set_option maxRecDepth 100000 in
theorem Xor_pos (va vb : Value) (a b : List UInt8) (w : World) (ha : SlB w va a) (hb : SlB w vb b) (hab : a.length = b.length) (h0 : 0 < a.length) (hmx : a.length ≤ 1000000) :
    Calls Tryz.prog 55 #[va, vb] w fun e w' => ∃ v, e = .returned (.tuple #[v, .nilIface]) ∧ Own w' w.heap.size v (pxor a b) ∧ Below w.heap.size w w' := by
  obtain ⟨n, hn⟩ : ∃ n, w.heap.size = n := ⟨_, rfl⟩
  have Hn := Lib.hid hn
  obtain ⟨A, ca, rfl, _, hlca, hcma, hra⟩ := ha
  obtain ⟨B, cb, rfl, _, hlcb, hcmb, hrb⟩ := hb
  obtain ⟨ga, oa, rfl, hrda⟩ := hra (by omega)
  obtain ⟨gb, ob, rfl, hrdb⟩ := hrb (by omega)
  have hgan : ga < n := by rw [← hn]; exact block_of_cell (hrda 0 h0)
  have hgbn : gb < n := by rw [← hn]; exact block_of_cell (hrdb 0 (by omega))
  rw [← hab]
  obtain ⟨m, em⟩ : ∃ m, a.length = m := ⟨_, rfl⟩
  have EM := Lib.hid em
  have EMB := Lib.hid (show b.length = m by omega)
  have HA := Lib.hid hrda
  have HB := Lib.hid hrdb
  rw [em] at hlca hmx h0 ⊢
  rw [← hab, em] at hlcb
  have HMX := Lib.hid hmx
  clear hra hrb hrda hrdb hab em
  go_enter Tryz.func55, Tryz.ntmps55
  go_wp2_with (refine make_new rfl 22 5 _ _ rfl m (by kernel_rfl) (by kernel_rfl) .i64 .i64 rfl rfl (by omega) ?_; intro w1 hB1 hG1 hs1)
  have hL1 : Below n w w1 := below_none (Below.refl n w) (by omega) hG1
  have hB1' : Blk w1 n 5 (xorTo a b 0) := by rw [xorTo_zero, EM.out]; rw [hn] at hB1; exact hB1
  have hsz : n + 1 ≤ w1.heap.size := by omega
  clear hB1 hG1 hs1 hn
  go_loopw [19] (fun i wr => ∃ k : Nat, k ≤ m ∧ i = .int .i64 k ∧ Blk wr n 5 (xorTo a b k) ∧ Below n w wr ∧ n + 1 ≤ wr.heap.size) (fun i _ => m - (intOf i).toNat)
  case atStart => exact ⟨0, by omega, rfl, hB1', hL1, hsz⟩
  case round =>
    clear hB1' hL1 hsz
    obtain ⟨k, hk, rfl, hB, hL, hsz⟩ := hrel
    by_cases hlt : k < m
    · have c1 : wr.cell? ⟨ga, oa + k, none⟩ = some (.int .u8 (bv (g8 a k))) := cell_below (HA.out k (by rw [EM.out]; exact hlt)) hL hgan
      have c2 : wr.cell? ⟨gb, ob + k, none⟩ = some (.int .u8 (bv (g8 b k))) := cell_below (HB.out k (by rw [EMB.out]; exact hlt)) hL hgbn
      have c3 : wr.cell? ⟨n, k, none⟩ = some (.int .u8 (bv (g8 (xorTo a b k) k))) := hB.cell k (by rw [xorTo_len, EM.out]; exact hlt)
      have f3 : wr.frozen? ⟨n, k, none⟩ = false := hB.free k
      have HBl := Lib.hid hB
      have HL := Lib.hid hL
      have HLT := Lib.hid hlt
      clear hB hL
      go_wp2
      go_region
      go_wp2
      go_roundw
      case rel =>
        have hG : wr.grownBy ((wr.setCell ⟨n, k, none⟩ (.int .u8 (bv (g8 a k ^^^ g8 b k)))).drew) (some n) := grown_drew (grown_set (grown_refl _ _) _ _)
        refine ⟨k + 1, HLT.out, by go_num, ?_, below_new HL.out (by omega) hG (by omega), by show n + 1 ≤ (wr.setCell _ _).heap.size; rw [World.size_setCell]; exact hsz⟩
        rw [← xorTo_set a b k (by rw [EM.out]; exact HLT.out)]
        exact (HBl.out.set k _).drew
      case measure => have : k < m := HLT.out; simp [intOf]; omega
    · have HE := Lib.hid (show k = m by omega)
      have HBl := Lib.hid hB
      have HL := Lib.hid hL
      clear hB hL
      go_wp2
      go_ret2
      refine ⟨_, rfl, ?_, ?_⟩
      · have h1 := HBl.out
        rw [HE.out] at h1
        have h2 : Blk wr n u8t (pxor a b) := by unfold pxor; rw [EM.out]; exact h1
        have h3 := blk_own (base := n) h2 (Nat.le_refl _) (by rw [pxor_len, EM.out]; exact HMX.out)
        rw [pxor_len, EM.out] at h3
        rw [Hn.out]
        exact h3
      · rw [Hn.out]; exact HL.out
set_option maxHeartbeats 800000 in
set_option maxRecDepth 100000 in
theorem Xor_zero (va vb : Value) (w : World) (ha : SlB w va []) (hb : SlB w vb []) :
    Calls Tryz.prog 55 #[va, vb] w fun e w' => ∃ v, e = .returned (.tuple #[v, .nilIface]) ∧ Own w' w.heap.size v [] ∧ Below w.heap.size w w' := by
  obtain ⟨A, ca, rfl, _, hlca, hcma, _⟩ := ha
  obtain ⟨B, cb, rfl, _, hlcb, hcmb, _⟩ := hb
  rw [List.length_nil] at hlca hlcb ⊢
  go_enter Tryz.func55, Tryz.ntmps55
  go_wp2_with (refine make_new rfl 22 5 _ _ rfl 0 (by kernel_rfl) (by kernel_rfl) .i64 .i64 rfl rfl (by omega) ?_; intro w1 hB1 hG1 hs1)
  have HO := Lib.hid (blk_own (base := w.heap.size) hB1 (Nat.le_refl _) (by simp))
  have HL := Lib.hid (below_none (Below.refl w.heap.size w) (Nat.le_refl _) hG1)
  clear hB1 hG1 hs1
  refine wp_loop_rounds 1 ?_
  rw [rounds_succ]
  go_wp2
  go_ret2
  exact ⟨_, rfl, HO.out, HL.out⟩
/-- of like lengths -/
theorem Xor_own (va vb : Value) (a b : List UInt8) (w : World) (ha : SlB w va a) (hb : SlB w vb b) (hab : a.length = b.length) (hmx : a.length ≤ 1000000) :
    Calls Tryz.prog 55 #[va, vb] w fun e w' => ∃ v, e = .returned (.tuple #[v, .nilIface]) ∧ Own w' w.heap.size v (pxor a b) ∧ Below w.heap.size w w' := by
  rcases Nat.eq_zero_or_pos a.length with h | h
  · have ea : a = [] := List.eq_nil_of_length_eq_zero h
    have eb : b = [] := List.eq_nil_of_length_eq_zero (by omega)
    subst ea eb
    exact Xor_zero va vb w ha hb
  · exact Xor_pos va vb a b w ha hb hab h hmx
set_option maxRecDepth 100000 in
/-- of unlike lengths -/
theorem Xor_no (va vb : Value) (a b : List UInt8) (w : World) (ha : SlB w va a) (hb : SlB w vb b) (hab : a.length ≠ b.length) :
    Calls Tryz.prog 55 #[va, vb] w fun e w' => e = .returned (.tuple #[.slice none 0 0, .iface 96 (.int .i64 2)]) ∧ w' = w := by
  obtain ⟨A, ca, rfl, _, hlca, hcma, _⟩ := ha
  obtain ⟨B, cb, rfl, _, hlcb, hcmb, _⟩ := hb
  generalize a.length = n at *
  generalize b.length = m at *
  have h' : ((n : Int) != (m : Int)) = true := by simp; omega
  go_enter Tryz.func55, Tryz.ntmps55
  go_wp2
  go_ret2
  exact ⟨rfl, rfl⟩
end Go.Proofs.YtidgmokbkepcdaaGreatDoor
set_option linter.unusedVariables false
set_option linter.unusedSimpArgs false
namespace Lk
open Go Go.RowKit
def gl (ls : List (List UInt8)) (k : Nat) : List UInt8 := ls.getD k []
def xorPre (ls : List (List UInt8)) : Nat → List UInt8
  | 0 => []
  | k + 1 => if k = 0 then gl ls 0 else pxor (xorPre ls k) (gl ls k)
def pjoin (kind : Int) (ls : List (List UInt8)) : List UInt8 := if kind = 2 then podds (xorPre ls ls.length) else xorPre ls ls.length
def badFrom (kind : Int) (m : Nat) : List (List UInt8) → Nat → Option Nat
  | [], _ => none
  | l :: r, i => if psz kind l.length ≠ 0 ∨ l.length ≠ m then some i else badFrom kind m r (i + 1)
def pbad (kind : Int) (ls : List (List UInt8)) : Option Nat := badFrom kind (gl ls 0).length ls 0
theorem gl_get (ls : List (List UInt8)) (k : Nat) (h : k < ls.length) : ls[k]? = some (gl ls k) := by
  unfold gl; rw [List.getElem?_eq_getElem h, List.getD_eq_getElem?_getD, List.getElem?_eq_getElem h]; rfl
theorem gl_drop (ls : List (List UInt8)) (k : Nat) (h : k < ls.length) : ls.drop k = gl ls k :: ls.drop (k + 1) := by
  rw [List.drop_eq_getElem_cons h]; congr 1
  unfold gl; rw [List.getD_eq_getElem?_getD, List.getElem?_eq_getElem h]; rfl
theorem bad_yes (kind : Int) (m : Nat) (ls : List (List UInt8)) (k : Nat) (h : k < ls.length) (hb : psz kind (gl ls k).length ≠ 0 ∨ (gl ls k).length ≠ m) : badFrom kind m (ls.drop k) k = some k := by
  rw [gl_drop ls k h, badFrom, if_pos hb]
theorem bad_no (kind : Int) (m : Nat) (ls : List (List UInt8)) (k : Nat) (h : k < ls.length) (h1 : psz kind (gl ls k).length = 0) (h2 : (gl ls k).length = m) : badFrom kind m (ls.drop k) k = badFrom kind m (ls.drop (k + 1)) (k + 1) := by
  rw [gl_drop ls k h, badFrom, if_neg (fun h => h.elim (fun x => x h1) (fun x => x h2))]
theorem bad_end (kind : Int) (m : Nat) (ls : List (List UInt8)) (k : Nat) (h : ls.length ≤ k) : badFrom kind m (ls.drop k) k = none := by
  rw [List.drop_eq_nil_of_le h, badFrom]
theorem psz_02 {kind : Int} (h : kind = 1 ∨ kind = 2) (n : Nat) : psz kind n = 0 ∨ psz kind n = 2 := by
  unfold psz
  rw [if_neg (by omega)]
  split <;> simp
end Lk
namespace Go.Proofs.YtidgmokbkepcdaaGreatDoor
open Go.RowKit Lk
/-- what part.Join comes to -/
def JoinR (w : World) (N : Nat) (kind : Int) (ls : List (List UInt8)) (v u : Value) : Prop :=
  match pbad kind ls with
  | some i => v = .slice none 0 0 ∧ ErV w [(i : Int)] 2 u
  | none => u = .nilIface ∧ Own w N v (pjoin kind ls)
theorem JoinR.bad {w : World} {N : Nat} {kind : Int} {ls : List (List UInt8)} {u : Value} {i : Nat} (h : pbad kind ls = some i) (he : ErV w [(i : Int)] 2 u) : JoinR w N kind ls (.slice none 0 0) u := by
  unfold JoinR; rw [h]; exact ⟨rfl, he⟩
theorem JoinR.ok {w : World} {N : Nat} {kind : Int} {ls : List (List UInt8)} {v : Value} (h : pbad kind ls = none) (ho : Own w N v (pjoin kind ls)) : JoinR w N kind ls v .nilIface := by
  unfold JoinR; rw [h]; exact ⟨rfl, ho⟩
theorem er_alloc (w : World) (k : Nat) (z : Int) (u : Value) (hu : u = .iface 96 (.int .i64 z)) : ErV (w.alloc (.cells #[.int .i64 (k : Int), u] 105)) [(k : Int)] z (.iface 102 (.pointer (some ⟨w.heap.size, 0, none⟩))) :=
  ⟨w.heap.size, u, rfl, heap_alloc_new w _, hu⟩
set_option maxHeartbeats 3200000 in
set_option maxRecDepth 100000 in
theorem Join_any (kind : Int) (vp : Value) (ls : List (List UInt8)) (w : World) (hk : kind = 1 ∨ kind = 2) (h2 : 2 ≤ ls.length) (h3 : ls.length ≤ 3) (h : SlSl w vp ls) (hll : ∀ k, (gl ls k).length ≤ 1000) :
    Calls Tryz.prog 73 #[.int .i64 kind, vp] w fun e w' => ∃ v u, e = .returned (.tuple #[v, u]) ∧ JoinR w' w.heap.size kind ls v u ∧ Below w.heap.size w w' := by
  obtain ⟨N, hN⟩ : ∃ N, w.heap.size = N := ⟨_, rfl⟩
  obtain ⟨n, hn⟩ : ∃ n, ls.length = n := ⟨_, rfl⟩
  obtain ⟨m, hm⟩ : ∃ m, (gl ls 0).length = m := ⟨_, rfl⟩
  have HN := Lib.hid hN
  have EL := Lib.hid hn
  have EM := Lib.hid hm
  obtain ⟨vs, hsv, hvl, hvs⟩ := h
  obtain ⟨A, c, rfl, n1, n2, n3, n4⟩ := hsv
  rw [hvl, hn] at n2 ⊢
  rw [hn] at h2 h3
  obtain ⟨g, o, rfl, hr⟩ := n4 (by omega)
  have HR := Lib.hid hr
  have HVS := Lib.hid hvs
  have HLL := Lib.hid hll
  have HKK := Lib.hid hk
  have HPB := Lib.hid (show pbad kind ls = badFrom kind m (ls.drop 0) 0 from by unfold pbad; rw [hm]; rfl)
  have hL0 : Below N w w := Below.refl _ _
  have ho0 : Own w N (.slice none 0 0) (xorPre ls 0) := own_nil _ _
  have d1 : ((n : Int) < 2) = False := by simp; omega
  have hd1 : decide ((n : Int) < 2) = false := by simp; omega
  have hd2 : decide ((3 : Int) < (n : Int)) = false := by simp; omega
  have k12 : (kind != 1 && kind != 2) = false := by rcases hk with rfl | rfl <;> rfl
  clear hN hn hm n1 n4 hr hvs hll hvl d1
  rcases hk with rfl | rfl
  · go_enter Tryz.func73, Tryz.ntmps73
    go_wp2
    go_loopw [6, 31] (fun ov i wr => ∃ k : Nat, k ≤ n ∧ i = .int .i64 k ∧ Own wr N ov (xorPre ls k) ∧ Hid (k ≠ 0 → (xorPre ls k).length = m) ∧ Hid (pbad 1 ls = badFrom 1 m (ls.drop k) k) ∧ Below N w wr) (fun _ i _ => n - (intOf i).toNat)
    case atStart => exact ⟨0, by omega, rfl, ho0, Lib.hid (fun h => absurd rfl h), HPB, hL0⟩
    case round =>
      clear ho0 hL0 HPB
      obtain ⟨k, hk, rfl, hO, hXL, hPB, hB⟩ := hrel
      by_cases hlt : k < n
      · have HLT := Lib.hid hlt
        obtain ⟨u, hu, hsu⟩ := HVS.out k (gl ls k) (gl_get ls k (by rw [EL.out]; exact hlt))
        have c1 := HR.out k u hu
        have hgN : g < N := by rw [← HN.out]; exact block_of_cell c1
        have c2 := cell_below c1 hB hgN
        obtain ⟨l, hl⟩ : ∃ l, gl ls k = l := ⟨_, rfl⟩
        have HL1 := Lib.hid (HLL.out k)
        rw [hl] at hsu HL1
        obtain ⟨q, hq⟩ : ∃ q, l.length = q := ⟨_, rfl⟩
        have EQ := Lib.hid hq
        have SU := Lib.hid (hsu.below (by rw [HN.out]; exact hB))
        obtain ⟨A2, cc, rfl, n1, n2', n3', n4'⟩ := hsu
        rw [hq] at n2' SU c2 HL1
        have q0 : q ≤ 1000 := HL1.out
        have HSZ := Lib.hid (fun w' => sized_any 1 q w' (Nat.le_trans q0 (by decide)))
        have HX := Lib.hid (show xorPre ls (k + 1) = if k = 0 then gl ls 0 else pxor (xorPre ls k) (gl ls k) from rfl)
        have HO := Lib.hid hO
        have HB := Lib.hid hB
        have HGL := Lib.hid hl
        have HWN := Lib.hid (show N ≤ wr.heap.size from by have := hB.size; have := HN.out; omega)
        clear hu c1 hO hB hl hq n1 n4'
        by_cases hz : psz 1 q = 0
        · rw [hz, errv_0] at HSZ
          have HZ := Lib.hid hz
          clear hz
          by_cases hk0 : k = 0
          · subst hk0
            rw [Nat.add_zero] at c2
            have HC := Lib.hid (clone_any _ l wr SU.out (by rw [EQ.out]; omega))
            go_wp2_with (first | (go_at_call 75; refine (HSZ.out _).mono ?_; rintro e wr ⟨rfl, rfl⟩) | (go_at_call 61; refine HC.out.mono ?_; rintro e w1 ⟨v1, rfl, hO1, hL1⟩; have HO1 := Lib.hid hO1; have HB1 := Lib.hid (below_more HB.out hL1 HWN.out); clear hO1 hL1))
            go_roundw
            case rel =>
              refine ⟨0 + 1, HLT.out, by go_num, ?_, Lib.hid (fun _ => ?_), Lib.hid ?_, HB1.out⟩
              · rw [show xorPre ls (0 + 1) = gl ls 0 from rfl, HGL.out]; exact HO1.out.lower HWN.out
              · rw [show xorPre ls (0 + 1) = gl ls 0 from rfl, ← EM.out]
              · rw [hPB.out]; exact bad_no 1 m ls 0 (by rw [EL.out]; exact HLT.out) (by rw [HGL.out, EQ.out]; exact HZ.out) EM.out
            case measure => have := HLT.out; simp [intOf]; omega
          · have hk1 : ((k : Int) == 0) = false := by simp; omega
            have hxl : (xorPre ls k).length = m := hXL.out hk0
            have HXL := Lib.hid hxl
            have HK0 := Lib.hid hk0
            clear hk0 hxl
            by_cases hqm : q = m
            · have HXO := Lib.hid (Xor_own _ _ (xorPre ls k) l wr HO.out.slB SU.out (by rw [HXL.out, EQ.out, hqm]) (by rw [HXL.out, ← hqm]; omega))
              have HQM := Lib.hid hqm
              clear hqm
              go_wp2_with (first | (go_at_call 75; refine (HSZ.out _).mono ?_; rintro e wr ⟨rfl, rfl⟩) | (go_at_call 55; refine HXO.out.mono ?_; rintro e w1 ⟨v1, rfl, hO1, hL1⟩; have HO1 := Lib.hid hO1; have HB1 := Lib.hid (below_more HB.out hL1 HWN.out); clear hO1 hL1))
              go_roundw
              case rel =>
                refine ⟨k + 1, HLT.out, by go_num, ?_, Lib.hid (fun _ => ?_), Lib.hid ?_, HB1.out⟩
                · rw [HX.out, if_neg HK0.out, HGL.out]; exact HO1.out.lower HWN.out
                · rw [HX.out, if_neg HK0.out, pxor_len]; exact HXL.out
                · rw [hPB.out]; exact bad_no 1 m ls k (by rw [EL.out]; exact HLT.out) (by rw [HGL.out, EQ.out]; exact HZ.out) (by rw [HGL.out, EQ.out]; exact HQM.out)
              case measure => have := HLT.out; simp [intOf]; omega
            · have HXO := Lib.hid (Xor_no _ _ (xorPre ls k) l wr HO.out.slB SU.out (by rw [HXL.out, EQ.out]; exact fun h => hqm h.symm))
              have HQM := Lib.hid hqm
              clear hqm
              go_wp2_with (first | (go_at_call 75; refine (HSZ.out _).mono ?_; rintro e wr ⟨rfl, rfl⟩) | (go_at_call 55; refine HXO.out.mono ?_; rintro e wr ⟨rfl, rfl⟩))
              go_ret2
              refine ⟨_, _, rfl, JoinR.bad (i := k) ?_ (er_alloc _ k 2 _ rfl), by rw [HN.out]; exact below_alloc HB.out HWN.out _⟩
              rw [hPB.out]; exact bad_yes 1 m ls k (by rw [EL.out]; exact HLT.out) (.inr (by rw [HGL.out, EQ.out]; exact HQM.out))
        · have hz2 : psz 1 q = 2 := (psz_02 (by decide) q).resolve_left hz
          rw [hz2, errv_k (by decide)] at HSZ
          have HZ := Lib.hid hz
          clear hz hz2
          go_wp2_with (go_at_call 75; refine (HSZ.out _).mono ?_; rintro e wr ⟨rfl, rfl⟩)
          go_ret2
          refine ⟨_, _, rfl, JoinR.bad (i := k) ?_ (er_alloc _ k 2 _ rfl), by rw [HN.out]; exact below_alloc HB.out HWN.out _⟩
          rw [hPB.out]; exact bad_yes 1 m ls k (by rw [EL.out]; exact HLT.out) (.inl (by rw [HGL.out, EQ.out]; exact HZ.out))
      · have HE := Lib.hid (show k = n by omega)
        have hk0 : k ≠ 0 := by omega
        have HXL := Lib.hid (hXL.out hk0)
        have HML := Lib.hid (HLL.out 0)
        have HB := Lib.hid hB
        have HO := Lib.hid hO
        have HWN := Lib.hid (show N ≤ wr.heap.size from by have := hB.size; have := HN.out; omega)
        have HNB := Lib.hid (show pbad 1 ls = none from by rw [hPB.out]; exact bad_end 1 m ls k (by rw [EL.out]; omega))
        clear hB hO hk0
        go_wp2
        go_ret2
        refine ⟨_, _, rfl, JoinR.ok HNB.out ?_, by rw [HN.out]; exact HB.out⟩
        have := HO.out
        rw [HE.out] at this
        rw [HN.out]
        unfold pjoin
        rw [if_neg (by decide), EL.out]
        exact this
  · go_enter Tryz.func73, Tryz.ntmps73
    go_wp2
    go_loopw [6, 31] (fun ov i wr => ∃ k : Nat, k ≤ n ∧ i = .int .i64 k ∧ Own wr N ov (xorPre ls k) ∧ Hid (k ≠ 0 → (xorPre ls k).length = m) ∧ Hid (pbad 2 ls = badFrom 2 m (ls.drop k) k) ∧ Below N w wr) (fun _ i _ => n - (intOf i).toNat)
    case atStart => exact ⟨0, by omega, rfl, ho0, Lib.hid (fun h => absurd rfl h), HPB, hL0⟩
    case round =>
      clear ho0 hL0 HPB
      obtain ⟨k, hk, rfl, hO, hXL, hPB, hB⟩ := hrel
      by_cases hlt : k < n
      · have HLT := Lib.hid hlt
        obtain ⟨u, hu, hsu⟩ := HVS.out k (gl ls k) (gl_get ls k (by rw [EL.out]; exact hlt))
        have c1 := HR.out k u hu
        have hgN : g < N := by rw [← HN.out]; exact block_of_cell c1
        have c2 := cell_below c1 hB hgN
        obtain ⟨l, hl⟩ : ∃ l, gl ls k = l := ⟨_, rfl⟩
        have HL1 := Lib.hid (HLL.out k)
        rw [hl] at hsu HL1
        obtain ⟨q, hq⟩ : ∃ q, l.length = q := ⟨_, rfl⟩
        have EQ := Lib.hid hq
        have SU := Lib.hid (hsu.below (by rw [HN.out]; exact hB))
        obtain ⟨A2, cc, rfl, n1, n2', n3', n4'⟩ := hsu
        rw [hq] at n2' SU c2 HL1
        have q0 : q ≤ 1000 := HL1.out
        have HSZ := Lib.hid (fun w' => sized_any 2 q w' (Nat.le_trans q0 (by decide)))
        have HX := Lib.hid (show xorPre ls (k + 1) = if k = 0 then gl ls 0 else pxor (xorPre ls k) (gl ls k) from rfl)
        have HO := Lib.hid hO
        have HB := Lib.hid hB
        have HGL := Lib.hid hl
        have HWN := Lib.hid (show N ≤ wr.heap.size from by have := hB.size; have := HN.out; omega)
        clear hu c1 hO hB hl hq n1 n4'
        by_cases hz : psz 2 q = 0
        · rw [hz, errv_0] at HSZ
          have HZ := Lib.hid hz
          clear hz
          by_cases hk0 : k = 0
          · subst hk0
            rw [Nat.add_zero] at c2
            have HC := Lib.hid (clone_any _ l wr SU.out (by rw [EQ.out]; omega))
            go_wp2_with (first | (go_at_call 75; refine (HSZ.out _).mono ?_; rintro e wr ⟨rfl, rfl⟩) | (go_at_call 61; refine HC.out.mono ?_; rintro e w1 ⟨v1, rfl, hO1, hL1⟩; have HO1 := Lib.hid hO1; have HB1 := Lib.hid (below_more HB.out hL1 HWN.out); clear hO1 hL1))
            go_roundw
            case rel =>
              refine ⟨0 + 1, HLT.out, by go_num, ?_, Lib.hid (fun _ => ?_), Lib.hid ?_, HB1.out⟩
              · rw [show xorPre ls (0 + 1) = gl ls 0 from rfl, HGL.out]; exact HO1.out.lower HWN.out
              · rw [show xorPre ls (0 + 1) = gl ls 0 from rfl, ← EM.out]
              · rw [hPB.out]; exact bad_no 2 m ls 0 (by rw [EL.out]; exact HLT.out) (by rw [HGL.out, EQ.out]; exact HZ.out) EM.out
            case measure => have := HLT.out; simp [intOf]; omega
          · have hk1 : ((k : Int) == 0) = false := by simp; omega
            have hxl : (xorPre ls k).length = m := hXL.out hk0
            have HXL := Lib.hid hxl
            have HK0 := Lib.hid hk0
            clear hk0 hxl
            by_cases hqm : q = m
            · have HXO := Lib.hid (Xor_own _ _ (xorPre ls k) l wr HO.out.slB SU.out (by rw [HXL.out, EQ.out, hqm]) (by rw [HXL.out, ← hqm]; omega))
              have HQM := Lib.hid hqm
              clear hqm
              go_wp2_with (first | (go_at_call 75; refine (HSZ.out _).mono ?_; rintro e wr ⟨rfl, rfl⟩) | (go_at_call 55; refine HXO.out.mono ?_; rintro e w1 ⟨v1, rfl, hO1, hL1⟩; have HO1 := Lib.hid hO1; have HB1 := Lib.hid (below_more HB.out hL1 HWN.out); clear hO1 hL1))
              go_roundw
              case rel =>
                refine ⟨k + 1, HLT.out, by go_num, ?_, Lib.hid (fun _ => ?_), Lib.hid ?_, HB1.out⟩
                · rw [HX.out, if_neg HK0.out, HGL.out]; exact HO1.out.lower HWN.out
                · rw [HX.out, if_neg HK0.out, pxor_len]; exact HXL.out
                · rw [hPB.out]; exact bad_no 2 m ls k (by rw [EL.out]; exact HLT.out) (by rw [HGL.out, EQ.out]; exact HZ.out) (by rw [HGL.out, EQ.out]; exact HQM.out)
              case measure => have := HLT.out; simp [intOf]; omega
            · have HXO := Lib.hid (Xor_no _ _ (xorPre ls k) l wr HO.out.slB SU.out (by rw [HXL.out, EQ.out]; exact fun h => hqm h.symm))
              have HQM := Lib.hid hqm
              clear hqm
              go_wp2_with (first | (go_at_call 75; refine (HSZ.out _).mono ?_; rintro e wr ⟨rfl, rfl⟩) | (go_at_call 55; refine HXO.out.mono ?_; rintro e wr ⟨rfl, rfl⟩))
              go_ret2
              refine ⟨_, _, rfl, JoinR.bad (i := k) ?_ (er_alloc _ k 2 _ rfl), by rw [HN.out]; exact below_alloc HB.out HWN.out _⟩
              rw [hPB.out]; exact bad_yes 2 m ls k (by rw [EL.out]; exact HLT.out) (.inr (by rw [HGL.out, EQ.out]; exact HQM.out))
        · have hz2 : psz 2 q = 2 := (psz_02 (by decide) q).resolve_left hz
          rw [hz2, errv_k (by decide)] at HSZ
          have HZ := Lib.hid hz
          clear hz hz2
          go_wp2_with (go_at_call 75; refine (HSZ.out _).mono ?_; rintro e wr ⟨rfl, rfl⟩)
          go_ret2
          refine ⟨_, _, rfl, JoinR.bad (i := k) ?_ (er_alloc _ k 2 _ rfl), by rw [HN.out]; exact below_alloc HB.out HWN.out _⟩
          rw [hPB.out]; exact bad_yes 2 m ls k (by rw [EL.out]; exact HLT.out) (.inl (by rw [HGL.out, EQ.out]; exact HZ.out))
      · have HE := Lib.hid (show k = n by omega)
        have hk0 : k ≠ 0 := by omega
        have HXL := Lib.hid (hXL.out hk0)
        have HML := Lib.hid (HLL.out 0)
        have HB := Lib.hid hB
        have HO := Lib.hid hO
        have HWN := Lib.hid (show N ≤ wr.heap.size from by have := hB.size; have := HN.out; omega)
        have HNB := Lib.hid (show pbad 2 ls = none from by rw [hPB.out]; exact bad_end 2 m ls k (by rw [EL.out]; omega))
        clear hB hO hk0
        have HOD := Lib.hid (Odd_any _ (xorPre ls k) wr HO.out.slB (by rw [HXL.out, ← EM.out]; have := HML.out; omega))
        go_wp2_with (go_at_call 72; refine HOD.out.mono ?_; rintro e w1 ⟨v1, rfl, hO1, hL1⟩; have HO1 := Lib.hid hO1; have HB1 := Lib.hid (below_more HB.out hL1 HWN.out); clear hO1 hL1)
        go_ret2
        refine ⟨_, _, rfl, JoinR.ok HNB.out ?_, by rw [HN.out]; exact HB1.out⟩
        have := HO1.out
        rw [HE.out] at this
        rw [HN.out]
        unfold pjoin
        rw [if_pos rfl, EL.out]
        exact this.lower HWN.out
end Go.Proofs.YtidgmokbkepcdaaGreatDoor
set_option linter.unusedVariables false
set_option linter.unusedSimpArgs false
namespace Lk
open Go Go.RowKit
def pvalue (kind : Nat) (key : List UInt8) : List UInt8 := if kind = 2 then (ptriple key (List.replicate 8 0) false).take 3 else (pcmac 1 key (List.replicate 16 0)).take 3
theorem psz_fits1 {n : Nat} (h : psz 1 n = 0) : pfits 1 n = true := by
  unfold psz at h; unfold pfits
  rw [if_neg (by omega)] at h
  split at h
  · rename_i hh; simp; omega
  · omega
theorem psz_fits2 {n : Nat} (h : psz 2 n = 0) : pfits 2 n = true := by
  unfold psz at h; unfold pfits
  rw [if_neg (by omega)] at h
  split at h
  · rename_i hh; simp; omega
  · omega
end Lk
namespace Go.Proofs.YtidgmokbkepcdaaGreatDoor
open Go.RowKit Lk
set_option maxHeartbeats 1600000 in
set_option maxRecDepth 100000 in
theorem Value_aes (v : Value) (key : List UInt8) (w : World) (h : SlB w v key) (hz : psz 1 key.length = 0) :
    Calls Tryz.prog 47 #[.int .i64 (1 : Int), v] w fun e w' => ∃ u, e = .returned (.tuple #[u, .nilIface]) ∧ Own w' w.heap.size u (pvalue 1 key) ∧ Below w.heap.size w w' := by
  obtain ⟨N, hN⟩ : ∃ N, w.heap.size = N := ⟨_, rfl⟩
  have HN := Lib.hid hN
  have hf := psz_fits1 hz
  have HF := Lib.hid hf
  have hz' := hz
  obtain ⟨q, hq⟩ : ∃ q, key.length = q := ⟨_, rfl⟩
  rw [hq] at hz'
  have q0 : q ≤ 1000 := by
    have := pfits_16 hf; omega
  have HSZ := Lib.hid (fun w' => sized_any 1 q w' (Nat.le_trans q0 (by decide)))
  rw [hz', errv_0] at HSZ
  have HC := Lib.hid (New_aes v key w hf h)
  obtain ⟨A, c, rfl, n1, n2, n3, n4⟩ := h
  rw [hq] at n2 HC ⊢
  clear hz hz' hf hq n1 n4
  go_enter Tryz.func47, Tryz.ntmps47
  go_wp2_with (first | (go_at_call 75; refine (HSZ.out _).mono ?_; rintro e w ⟨rfl, rfl⟩) | (go_at_call 25; refine HC.out.mono ?_; rintro e w1 ⟨p, rfl, hC1, hL1⟩; have HC1 := Lib.hid hC1; have HL1 := Lib.hid hL1; clear hC1 hL1) | (refine make_new (w := w1) rfl 22 5 _ _ rfl 16 (by kernel_rfl) (by kernel_rfl) .i64 .i64 rfl rfl (by omega) ?_; intro w2 hB2 hG2 hs2; have HL2 := Lib.hid (below_none (Below.refl w1.heap.size w1) (Nat.le_refl _) hG2); have HM := Lib.hid (Cmac_any p _ w2.heap.size 1 3 key (List.replicate 16 0) w2 (.inl rfl) (HC1.out.next HL2.out) (Nat.le_refl _) HF.out (hB2.slB (n := 16) (by simp) (by decide)) (by simp) (by decide) (by decide)); clear hB2 hG2 hs2) | (go_at_call 27; refine HM.out.mono ?_; rintro e w3 ⟨u, rfl, hO, hL3⟩))
  go_ret2
  have b1 := below_more HL1.out HL2.out HL1.out.size
  have b2 := below_more b1 hL3 b1.size
  exact ⟨u, rfl, hO.lower b1.size, b2⟩
set_option maxHeartbeats 1600000 in
set_option maxRecDepth 100000 in
theorem Value_tdes (v : Value) (key : List UInt8) (w : World) (h : SlB w v key) (hz : psz 2 key.length = 0) :
    Calls Tryz.prog 47 #[.int .i64 (2 : Int), v] w fun e w' => ∃ u, e = .returned (.tuple #[u, .nilIface]) ∧ Own w' w.heap.size u (pvalue 2 key) ∧ Below w.heap.size w w' := by
  obtain ⟨N, hN⟩ : ∃ N, w.heap.size = N := ⟨_, rfl⟩
  have HN := Lib.hid hN
  have hf := psz_fits2 hz
  have HF := Lib.hid hf
  have hz' := hz
  obtain ⟨q, hq⟩ : ∃ q, key.length = q := ⟨_, rfl⟩
  rw [hq] at hz'
  have q0 : q ≤ 1000 := by
    have h' : (q == 8 || q == 16 || q == 24) = true := by rw [← hq]; simpa [pfits] using hf
    simp at h'; omega
  have HSZ := Lib.hid (fun w' => sized_any 2 q w' (Nat.le_trans q0 (by decide)))
  rw [hz', errv_0] at HSZ
  have HC := Lib.hid (New_tdes v key w hf h)
  obtain ⟨A, c, rfl, n1, n2, n3, n4⟩ := h
  rw [hq] at n2 HC ⊢
  clear hz hz' hf hq n1 n4
  go_enter Tryz.func47, Tryz.ntmps47
  go_wp2_with (first | (go_at_call 75; refine (HSZ.out _).mono ?_; rintro e w ⟨rfl, rfl⟩) | (go_at_call 25; refine HC.out.mono ?_; rintro e w1 ⟨p, rfl, hC1, hL1⟩; have HC1 := Lib.hid hC1; have HL1 := Lib.hid hL1; clear hC1 hL1) | (refine make_new (w := w1) rfl 22 5 _ _ rfl 8 (by kernel_rfl) (by kernel_rfl) .i64 .i64 rfl rfl (by omega) ?_; intro w2 hB2 hG2 hs2; have HL2 := Lib.hid (below_none (Below.refl w1.heap.size w1) (Nat.le_refl _) hG2); have HM := Lib.hid (Do_sz p _ w2.heap.size 2 8 key (List.replicate 8 0) false w2 (.inr rfl) (HC1.out.next HL2.out) (Nat.le_refl _) HF.out (hB2.slB (n := 8) (by simp) (by decide)) (by simp) (by decide)); clear hB2 hG2 hs2) | (go_at_call 52; refine HM.out.mono ?_; rintro e w3 ⟨g3, rfl, hS3, hg3, hg4, hL3⟩; have HS3 := Lib.hid (hS3.take (n := 3) (by rw [show pdo 2 key (List.replicate 8 0) false = ptriple key (List.replicate 8 0) false from rfl, ptriple_len8]; decide)); have HL3 := Lib.hid hL3; have HCL := Lib.hid (clone_any _ _ w3 HS3.out (by rw [List.length_take]; omega)); clear hS3 hg3 hg4 hL3) | (go_at_call 61; refine HCL.out.mono ?_; rintro e w4 ⟨u, rfl, hO, hL4⟩))
  go_ret2
  have b1 := below_more HL1.out HL2.out HL1.out.size
  have b2 := below_more b1 HL3.out b1.size
  have b3 := below_more b2 hL4 b2.size
  exact ⟨u, rfl, hO.lower b2.size, b3⟩
set_option maxHeartbeats 1600000 in
set_option maxRecDepth 100000 in
theorem Value_bad (kind : Int) (v : Value) (key : List UInt8) (w : World) (h : SlB w v key) (hz : psz kind key.length ≠ 0) (hl : key.length ≤ 1000) :
    Calls Tryz.prog 47 #[.int .i64 kind, v] w fun e w' => e = .returned (.tuple #[.slice none 0 0, .iface 96 (.int .i64 (psz kind key.length))]) ∧ w' = w := by
  obtain ⟨q, hq⟩ : ∃ q, key.length = q := ⟨_, rfl⟩
  rw [hq] at hz hl ⊢
  have HSZ := Lib.hid (fun w' => sized_any kind q w' (Nat.le_trans hl (by decide)))
  obtain ⟨A, c, rfl, n1, n2, n3, n4⟩ := h
  rw [hq] at n2 ⊢
  generalize psz kind q = z at hz HSZ ⊢
  rw [errv_k hz] at HSZ
  clear n1 n4 hq hz
  go_enter Tryz.func47, Tryz.ntmps47
  go_wp2_with (first | (go_at_call 75; refine (HSZ.out _).mono ?_; rintro e w ⟨rfl, rfl⟩))
  go_ret2
  exact ⟨rfl, rfl⟩
end Go.Proofs.YtidgmokbkepcdaaGreatDoor
set_option linter.unusedVariables false
set_option linter.unusedSimpArgs false
namespace Lk
open Go Go.RowKit
def xAt (ls : List (List UInt8)) (i : Nat) : Nat → UInt8
  | 0 => 0
  | k + 1 => xAt ls i k ^^^ g8 (gl ls k) i
theorem xorPre_len (ls : List (List UInt8)) (m : Nat) (hl : ∀ k, k < ls.length → (gl ls k).length = m) (hn : 0 < ls.length) : ∀ k, (xorPre ls (k + 1)).length = m
  | 0 => hl 0 hn
  | k + 1 => by
    rw [xorPre, if_neg (by omega), pxor_len]
    exact xorPre_len ls m hl hn k
theorem xAt_pre (ls : List (List UInt8)) (m i : Nat) (hi : i < m) (hl : ∀ k, k < ls.length → (gl ls k).length = m) (hn : 0 < ls.length) : ∀ k, k < ls.length → xAt ls i (k + 1) = g8 (xorPre ls (k + 1)) i
  | 0, _ => by simp [xAt, xorPre]
  | k + 1, hk => by
    rw [xAt, xAt_pre ls m i hi hl hn k (by omega)]
    rw [show xorPre ls (k + 1 + 1) = pxor (xorPre ls (k + 1)) (gl ls (k + 1)) from by rw [xorPre, if_neg (by omega)]]
    rw [pxor_at _ _ i (by rw [xorPre_len ls m hl hn k]; exact hi)]
end Lk
namespace Go.Proofs.YtidgmokbkepcdaaGreatDoor
open Go.RowKit Lk
end Go.Proofs.YtidgmokbkepcdaaGreatDoor
set_option linter.unusedVariables false
set_option linter.unusedSimpArgs false
namespace Lk
open Go Go.RowKit
def z16 : List UInt8 := List.replicate 16 0
def o16 : List UInt8 := List.replicate 16 1
theorem ev_odds : podds z16 = o16 := by decide +kernel
theorem ev_value : pvalue 2 z16 = [140, 166, 77] := by decide +kernel
theorem ev_join : pjoin 1 [z16, o16] = o16 := by decide +kernel
theorem ev_bad : pbad 1 [z16, o16] = none := by decide +kernel
end Lk
namespace Go.Proofs.YtidgmokbkepcdaaGreatDoor
open Lk
theorem ev_rz : pright 2 z16 = some ([0], 3) := by decide +kernel
theorem ev_ro : pright 2 o16 = none := by decide +kernel
end Go.Proofs.YtidgmokbkepcdaaGreatDoor
set_option linter.unusedVariables false
set_option linter.unusedSimpArgs false
namespace Go.Proofs.YtidgmokbkepcdaaGreatDoor
open Go.RowKit Go.Extern.Stop Go.Stop Go.Extern Lk
theorem cell_new {w w4 : World} {v : Value} {T : TypeId} (hL : Below (w.alloc (.cells #[v] T)).heap.size (w.alloc (.cells #[v] T)) w4) (u : Value) : (w4.setCell ⟨w.heap.size, 0, none⟩ u).cell? ⟨w.heap.size, 0, none⟩ = some u := by
  have c4 := hL.block w.heap.size (by simp)
  have c5 : (w.alloc (.cells #[v] T)).heap[w.heap.size]? = some (.cells #[v] T (0, 0)) := heap_alloc_new w _
  rw [c5] at c4
  exact cell_of_one (one_setCell c4)
theorem below_set {w w1 w4 : World} (hb : Below w.heap.size w w1) (hL : Below w1.heap.size w1 w4) (u : Value) : Below w.heap.size w (w4.setCell ⟨w.heap.size, 0, none⟩ u) :=
  (below_mr hb hL hb.size).setCell (Nat.le_refl _) _
theorem Code_nil (w : World) : Calls Tryz.prog 18 #[.nilIface] w fun e w' => e = .returned (.int .i64 0) ∧ Below w.heap.size w w' := by
  go_enter Tryz.func18, Tryz.ntmps18
  go_wp2
  go_ret
  exact ⟨rfl, (Below.refl _ _).alloc (Nat.le_refl _) _⟩
theorem At_nil (w : World) : Calls Tryz.prog 20 #[.nilIface] w fun e w' => e = .returned (.int .i64 (-1)) ∧ Below w.heap.size w w' := by
  go_enter Tryz.func20, Tryz.ntmps20
  go_wp2
  go_ret
  exact ⟨rfl, (Below.refl _ _).alloc (Nat.le_refl _) _⟩
set_option maxHeartbeats 1000000 in
theorem Code_any (ats : List Int) (k : Int) (v : Value) (w : World) (hE : Et w) (hv : ErV w ats k v) :
    Calls Tryz.prog 18 #[v] w fun e w' => e = .returned (.int .i64 k) ∧ Below w.heap.size w w' := by
  obtain ⟨T, x, ex⟩ := hv.form
  subst ex
  have hb := (Below.refl w.heap.size w).alloc (Nat.le_refl _) (.cells #[.int .i64 0] 96)
  have ca := As_E ats k _ ⟨w.heap.size, 0, none⟩ (.int .i64 0) (w.alloc (.cells #[.int .i64 0] 96)) (hE.below hb) (hv.below hb) (by rw [World.cell?_alloc_at _ _ _ _ rfl]; rfl) (by simp)
  have CA := Lib.hid ca
  have HB := Lib.hid hb
  clear ca hb hE hv
  go_enter Tryz.func18, Tryz.ntmps18
  go_wp2_with (go_at_call 56; refine CA.out.mono ?_; rintro e w3 ⟨rfl, w4, hL4, rfl⟩; have c5 := cell_new hL4 (.int .i64 k))
  go_ret
  exact ⟨rfl, below_set HB.out hL4 _⟩
set_option maxHeartbeats 1000000 in
theorem At_no (k : Int) (w : World) (hE : Et w) :
    Calls Tryz.prog 20 #[.iface 96 (.int .i64 k)] w fun e w' => e = .returned (.int .i64 (-1)) ∧ Below w.heap.size w w' := by
  have hb := (Below.refl w.heap.size w).alloc (Nat.le_refl _) (.cells #[.pointer none] 102)
  have ca := As_no k ⟨w.heap.size, 0, none⟩ (.pointer none) (w.alloc (.cells #[.pointer none] 102)) (hE.below hb) (by rw [World.cell?_alloc_at _ _ _ _ rfl]; rfl) (by simp)
  have CA := Lib.hid ca
  have HB := Lib.hid hb
  clear ca hb hE
  go_enter Tryz.func20, Tryz.ntmps20
  go_wp2_with (go_at_call 56; refine CA.out.mono ?_; rintro e w3 ⟨rfl, hL4⟩)
  go_ret
  exact ⟨rfl, below_mr HB.out hL4 HB.out.size⟩
set_option maxHeartbeats 1000000 in
theorem At_yes (a : Int) (r : List Int) (k : Int) (v : Value) (w : World) (hE : Et w) (hv : ErV w (a :: r) k v) :
    Calls Tryz.prog 20 #[v] w fun e w' => e = .returned (.int .i64 a) ∧ Below w.heap.size w w' := by
  obtain ⟨g, u, e, hc, _⟩ := hv
  subst e
  have hg : g < w.heap.size := (Array.getElem?_eq_some_iff.1 hc).1
  have hb := (Below.refl w.heap.size w).alloc (Nat.le_refl _) (.cells #[.pointer none] 102)
  have ca := As_F ⟨g, 0, none⟩ ⟨w.heap.size, 0, none⟩ (.pointer none) (w.alloc (.cells #[.pointer none] 102)) (hE.below hb) (by rw [World.cell?_alloc_at _ _ _ _ rfl]; rfl) (by simp)
  have CA := Lib.hid ca
  have HB := Lib.hid hb
  have HC := Lib.hid (fun (w4 : World) (hL : Below w.heap.size w w4) => (show (w4.setCell ⟨w.heap.size, 0, none⟩ (.pointer (some ⟨g, 0, none⟩))).cell? ⟨g, 0, none⟩ = some (.int .i64 a) from by
    have h1 := hL.block g hg
    rw [hc] at h1
    have h2 := Below.heap_setCell w4 ⟨w.heap.size, 0, none⟩ (.pointer (some ⟨g, 0, none⟩)) g (by simp; omega)
    rw [h1] at h2
    simp [World.cell?, h2]))
  clear ca hb hE hc
  go_enter Tryz.func20, Tryz.ntmps20
  go_wp2_with (go_at_call 56; refine CA.out.mono ?_; rintro e w3 ⟨rfl, w4, hL4, rfl⟩; have c5 := cell_new hL4 (.pointer (some ⟨g, 0, none⟩)); have c6 := HC.out w4 (below_mr HB.out hL4 HB.out.size))
  go_ret
  exact ⟨rfl, below_set HB.out hL4 _⟩
end Go.Proofs.YtidgmokbkepcdaaGreatDoor
set_option linter.unusedVariables false
set_option linter.unusedSimpArgs false
namespace Go.Proofs.YtidgmokbkepcdaaGreatDoor
open Go.RowKit Lk
theorem slSl_two {w : World} {g1 g2 n c1 c2 : Nat} {a b : List UInt8} (h1 : SlB w (.slice (some ⟨g1, 0, none⟩) n c1) a) (h2 : SlB w (.slice (some ⟨g2, 0, none⟩) n c2) b) :
    SlSl (w.alloc (.cells #[.slice (some ⟨g1, 0, none⟩) n c1, .slice (some ⟨g2, 0, none⟩) n c2] 22)) (.slice (some ⟨w.heap.size, 0, none⟩) 2 2) [a, b] := by
  refine ⟨[_, _], slV_lit w [.slice (some ⟨g1, 0, none⟩) n c1, .slice (some ⟨g2, 0, none⟩) n c2] 2 _ rfl (by decide), rfl, fun k l hk => ?_⟩
  rcases k with _ | _ | k
  · obtain rfl : a = l := by simpa using hk
    exact ⟨_, rfl, h1.alloc _⟩
  · obtain rfl : b = l := by simpa using hk
    exact ⟨_, rfl, h2.alloc _⟩
  · simp at hk
set_option maxHeartbeats 3200000 in
set_option maxRecDepth 100000 in
theorem awake09 (w : World) (hE : Et w) : Calls Tryz.prog 46 #[] w fun e w' => e = .returned (.bool true) ∧ Below w.heap.size w w' := by
  obtain ⟨N, hN⟩ : ∃ N, w.heap.size = N := ⟨_, rfl⟩
  have HN := Lib.hid hN
  have HZ := Lib.hid (show z16.length = 16 from rfl)
  have HO16 := Lib.hid (show o16.length = 16 from rfl)
  have hM0 : Below N w w := Below.refl _ _
  have hs0 : N ≤ w.heap.size := by omega
  have E_0 := Lib.hid (hE)
  clear hE
  go_enter Tryz.func46, Tryz.ntmps46
  go_wp2_with (refine make_new (w := w) rfl 22 5 _ _ rfl 16 (by kernel_rfl) (by kernel_rfl) .i64 .i64 rfl rfl (by omega) ?_; intro w1 hB hG hz; have hL : Below w.heap.size w w1 := (below_none (Below.refl _ _) (Nat.le_refl _) hG); obtain ⟨gK, eg⟩ : ∃ g, w.heap.size = g := ⟨_, rfl⟩; have hgK : N ≤ gK := (by omega); have hB2 : Blk w1 gK u8t (List.replicate 16 0) := (by rw [← eg]; exact hB); have hL2 := hL; rw [eg] at hL2 ⊢; clear hB hG hz)
  have hM1 : Below N w w1 := below_more hM0 hL hs0
  have hs1 : N ≤ w1.heap.size := Nat.le_trans hs0 (hL).size
  have E_1 := Lib.hid (E_0.out.below hL)
  clear E_0
  clear hM0 hs0
  have K_1 := Lib.hid (hB2)
  clear hL hB2 hL2 eg
  go_wp2_with fail
  refine (Odd_any _ z16 w1 (K_1.out.slB (n := 16) rfl (by decide)) (by decide)).mono ?_
  rintro e w2 ⟨v, rfl, hO, hL⟩
  rw [ev_odds] at hO
  obtain ⟨gO, cO, egO, hgO, _, _, _, hcO⟩ := hO.form (by decide)
  rw [HO16.out] at egO hcO
  subst egO
  have hcO2 := own_cap hO
  have hM2 : Below N w w2 := below_more hM1 hL hs1
  have hs2 : N ≤ w2.heap.size := Nat.le_trans hs1 (hL).size
  have E_2 := Lib.hid (E_1.out.below hL)
  clear E_1
  have K_2 := Lib.hid (K_1.out.under hL)
  clear K_1
  clear hM1 hs1
  have O_2 := Lib.hid (hO)
  clear hO hL hgO
  go_wp2_with fail
  refine (Value_tdes _ z16 w2 (K_2.out.slB (n := 16) rfl (by decide)) (by decide)).mono ?_
  rintro e w3 ⟨v, rfl, hO, hL⟩
  rw [ev_value] at hO
  obtain ⟨gV, cV, egV, _⟩ := hO.form (by decide)
  subst egV
  have hM3 : Below N w w3 := below_more hM2 hL hs2
  have hs3 : N ≤ w3.heap.size := Nat.le_trans hs2 (hL).size
  have E_3 := Lib.hid (E_2.out.below hL)
  clear E_2
  have K_3 := Lib.hid (K_2.out.under hL)
  clear K_2
  have O_3 := Lib.hid (O_2.out.under hL)
  clear O_2
  clear hM2 hs2
  have V_3 := Lib.hid (hO)
  clear hO hL
  go_wp2_with fail
  have hq := slSl_two (w := w3) (K_3.out.slB (n := 16) rfl (by decide)) (show SlB w3 (.slice (some ⟨gO, 0, none⟩) 16 cO) o16 from O_3.out.slB)
  generalize hww4 : w3.alloc _ = w4
  rw [hww4] at hq
  have hL : Below w3.heap.size w3 w4 := by rw [← hww4]; exact below_alloc (Below.refl _ _) (Nat.le_refl _) _
  clear hww4
  have hM4 : Below N w w4 := below_more hM3 hL hs3
  have hs4 : N ≤ w4.heap.size := Nat.le_trans hs3 (hL).size
  have E_4 := Lib.hid (E_3.out.below hL)
  clear E_3
  have K_4 := Lib.hid (K_3.out.under hL)
  clear K_3
  have O_4 := Lib.hid (O_3.out.under hL)
  clear O_3
  have V_4 := Lib.hid (V_3.out.under hL)
  clear V_3
  clear hM3 hs3
  clear hL
  have P_4 := Lib.hid (hq)
  clear hq
  refine (Join_any 1 _ [z16, o16] w4 (.inl rfl) (by decide) (by decide) P_4.out (fun k => by rcases k with _ | _ | k <;> simp [gl, z16, o16])).mono ?_
  rintro e w5 ⟨v, u, rfl, hJ, hL⟩
  unfold JoinR at hJ
  rw [ev_bad, ev_join] at hJ
  obtain ⟨rfl, hO⟩ := hJ
  obtain ⟨gJ, cJ, egJ, _⟩ := hO.form (by decide)
  rw [HO16.out] at egJ
  subst egJ
  have hM5 : Below N w w5 := below_more hM4 hL hs4
  have hs5 : N ≤ w5.heap.size := Nat.le_trans hs4 (hL).size
  have E_5 := Lib.hid (E_4.out.below hL)
  clear E_4
  have K_5 := Lib.hid (K_4.out.under hL)
  clear K_4
  have O_5 := Lib.hid (O_4.out.under hL)
  clear O_4
  have V_5 := Lib.hid (V_4.out.under hL)
  clear V_4
  have P_5 := Lib.hid (P_4.out.below hL)
  clear P_4
  clear hM4 hs4
  have J_5 := Lib.hid (hO)
  clear hO hL
  have cO3 : w5.cell? ⟨gO, 3, none⟩ = some (.int .u8 1) := O_5.out.cell 3 (by decide)
  go_wp2_with fail
  have hq := lit_slB w5 [140, 166, 77] 3 rfl (by decide)
  rw [show Bs [140, 166, 77] = #[Value.int .u8 140, .int .u8 166, .int .u8 77] from rfl, show u8t = 5 from rfl] at hq
  generalize hww6 : w5.alloc _ = w6
  rw [hww6] at hq
  have hL : Below w5.heap.size w5 w6 := by rw [← hww6]; exact below_alloc (Below.refl _ _) (Nat.le_refl _) _
  clear hww6
  have hM6 : Below N w w6 := below_more hM5 hL hs5
  have hs6 : N ≤ w6.heap.size := Nat.le_trans hs5 (hL).size
  have E_6 := Lib.hid (E_5.out.below hL)
  clear E_5
  have K_6 := Lib.hid (K_5.out.under hL)
  clear K_5
  have O_6 := Lib.hid (O_5.out.under hL)
  clear O_5
  have V_6 := Lib.hid (V_5.out.under hL)
  clear V_5
  have P_6 := Lib.hid (P_5.out.below hL)
  clear P_5
  have J_6 := Lib.hid (J_5.out.under hL)
  clear J_5
  clear hM5 hs5
  clear hL
  have Q_6 := Lib.hid (hq)
  clear hq
  refine (Same_any _ _ _ [140, 166, 77] w6 V_6.out.slB Q_6.out (by decide)).mono ?_
  rintro e w7 ⟨rfl, hD⟩
  rw [beq_self_eq_true]
  have hM7 : Below N w w7 := below_more hM6 hD.below0 hs6
  have hs7 : N ≤ w7.heap.size := Nat.le_trans hs6 (hD.below0).size
  have E_7 := Lib.hid (E_6.out.below hD.below0)
  clear E_6
  have K_7 := Lib.hid (K_6.out.under hD.below0)
  clear K_6
  have O_7 := Lib.hid (O_6.out.under hD.below0)
  clear O_6
  have V_7 := Lib.hid (V_6.out.under hD.below0)
  clear V_6
  have P_7 := Lib.hid (P_6.out.below hD.below0)
  clear P_6
  have J_7 := Lib.hid (J_6.out.under hD.below0)
  clear J_6
  have Q_7 := Lib.hid (Q_6.out.below hD.below0)
  clear Q_6
  clear hM6 hs6
  clear hD
  go_wp2_with fail
  refine (Same_any _ _ o16 o16 w7 J_7.out.slB O_7.out.slB (by decide)).mono ?_
  rintro e w8 ⟨rfl, hD⟩
  rw [beq_self_eq_true]
  have hM8 : Below N w w8 := below_more hM7 hD.below0 hs7
  have hs8 : N ≤ w8.heap.size := Nat.le_trans hs7 (hD.below0).size
  have E_8 := Lib.hid (E_7.out.below hD.below0)
  clear E_7
  have K_8 := Lib.hid (K_7.out.under hD.below0)
  clear K_7
  have O_8 := Lib.hid (O_7.out.under hD.below0)
  clear O_7
  have V_8 := Lib.hid (V_7.out.under hD.below0)
  clear V_7
  have P_8 := Lib.hid (P_7.out.below hD.below0)
  clear P_7
  have J_8 := Lib.hid (J_7.out.under hD.below0)
  clear J_7
  have Q_8 := Lib.hid (Q_7.out.below hD.below0)
  clear Q_7
  clear hM7 hs7
  clear hD
  go_wp2_with fail
  refine (Right_key 2 _ z16 w8 (K_8.out.slB (n := 16) rfl (by decide)) (by decide)).mono ?_
  rintro e w9 ⟨u, rfl, hr, hL⟩
  rw [ev_rz] at hr
  have hM9 : Below N w w9 := below_more hM8 hL hs8
  have hs9 : N ≤ w9.heap.size := Nat.le_trans hs8 (hL).size
  have E_9 := Lib.hid (E_8.out.below hL)
  clear E_8
  have K_9 := Lib.hid (K_8.out.under hL)
  clear K_8
  have O_9 := Lib.hid (O_8.out.under hL)
  clear O_8
  have V_9 := Lib.hid (V_8.out.under hL)
  clear V_8
  have P_9 := Lib.hid (P_8.out.below hL)
  clear P_8
  have J_9 := Lib.hid (J_8.out.under hL)
  clear J_8
  have Q_9 := Lib.hid (Q_8.out.below hL)
  clear Q_8
  clear hM8 hs8
  have R_9 := Lib.hid (hr)
  clear hr hL
  go_wp2_with fail
  refine (Code_any [0] 3 u w9 E_9.out R_9.out).mono ?_
  rintro e w10 ⟨rfl, hL⟩
  have hM10 : Below N w w10 := below_more hM9 hL hs9
  have hs10 : N ≤ w10.heap.size := Nat.le_trans hs9 (hL).size
  have E_10 := Lib.hid (E_9.out.below hL)
  clear E_9
  have K_10 := Lib.hid (K_9.out.under hL)
  clear K_9
  have O_10 := Lib.hid (O_9.out.under hL)
  clear O_9
  have V_10 := Lib.hid (V_9.out.under hL)
  clear V_9
  have P_10 := Lib.hid (P_9.out.below hL)
  clear P_9
  have J_10 := Lib.hid (J_9.out.under hL)
  clear J_9
  have Q_10 := Lib.hid (Q_9.out.below hL)
  clear Q_9
  have R_10 := Lib.hid (R_9.out.below hL)
  clear R_9
  clear hM9 hs9
  clear hL
  go_wp2_with fail
  refine (Right_key 2 _ o16 w10 O_10.out.slB (by decide)).mono ?_
  rintro e w11 ⟨u, rfl, hr, hL⟩
  rw [ev_ro] at hr
  have hr : _ = Value.nilIface := hr
  subst hr
  have hM11 : Below N w w11 := below_more hM10 hL hs10
  have hs11 : N ≤ w11.heap.size := Nat.le_trans hs10 (hL).size
  have E_11 := Lib.hid (E_10.out.below hL)
  clear E_10
  have K_11 := Lib.hid (K_10.out.under hL)
  clear K_10
  have O_11 := Lib.hid (O_10.out.under hL)
  clear O_10
  have V_11 := Lib.hid (V_10.out.under hL)
  clear V_10
  have P_11 := Lib.hid (P_10.out.below hL)
  clear P_10
  have J_11 := Lib.hid (J_10.out.under hL)
  clear J_10
  have Q_11 := Lib.hid (Q_10.out.below hL)
  clear Q_10
  have R_11 := Lib.hid (R_10.out.below hL)
  clear R_10
  clear hM10 hs10
  clear hL
  go_wp2_with fail
  go_ret
  exact ⟨rfl, by rw [HN.out]; exact hM11⟩
end Go.Proofs.YtidgmokbkepcdaaGreatDoor
