/- Row of BlockBack. -/
import Derived.Test.YtbbfjlnkhenbiaaDoorKP1
import Derived.Test.YtbbfjlnkhenbiaaDoorKB5
import Derived.Test.YtbbfjlnkhenbiaaDoorKB0
import Derived.WalkKit
import Derived.ProofKit
import Derived.OpenShut
import Derived.ShutString
import Derived.ChangeOld
import Derived.SizedLaws
import Derived.ChangeSlices
import Derived.Test.YtbbfjlnkhenbiaaDoorRows
import Derived.Test.YtbbfjlnkhenbiaaDoorKB6
import Derived.ChangeSame
import Derived.ChangeVars
import Derived.JoinedOf
import Derived.RowKit
import Derived.RowKitTokens
import Derived.LaidLaws
import Derived.LaidHandle
import Derived.Stop.Joined
import Derived.SevenTiedAt
import Derived.Test.YtbbfjlnkhenbiaaDoorCards
import Derived.Test.YtbbfjlnkhenbiaaDoorTie
set_option linter.unusedVariables false
set_option linter.unusedSimpArgs false
namespace Lk
open Go Go.RowKit
theorem pdraw_le {t : List UInt8 → Bool} : ∀ (n : Nat) {tp tp' : List UInt8} {y : Option (List UInt8)}, tp.length ≤ n → pdraw t tp = (y, tp') → tp'.length ≤ tp.length
  | n, tp, tp', y, hn, h => by
    by_cases hs : tp.length < 16
    · rw [pdraw_short _ _ hs] at h; injection h with _ h; rw [← h]; simp
    · cases n with
      | zero => omega
      | succ n =>
        by_cases ht : t (tp.take 16) = true
        · rw [pdraw_taken _ _ hs ht] at h
          have := pdraw_le n (by rw [List.length_drop]; omega) h
          rw [List.length_drop] at this; omega
        · rw [pdraw_free _ _ hs (by simpa using ht)] at h
          injection h with _ h
          rw [← h, List.length_drop]; omega
theorem pask_small (rows : List Rw) (tp key x : List UInt8) (back : Bool) : (pask rows tp key x back).1.length ≤ rows.length + 1 ∧ (pask rows tp key x back).2.1.length ≤ tp.length := by
  rcases pask_cases rows tp key x back with ⟨r, _, _, _, e⟩ | ⟨tp', hd, e⟩ | ⟨y, tp', hd, _, _, _, e⟩
  · rw [e]; exact ⟨by simp, Nat.le_refl _⟩
  · rw [e]; exact ⟨by simp, pdraw_le _ (Nat.le_refl _) hd⟩
  · rw [e]; exact ⟨by simp, pdraw_le _ (Nat.le_refl _) hd⟩
end Lk
namespace Go.Proofs.YtbbfjlnkhenbiaaDoor
open Go Go.RowKit Lk
set_option maxHeartbeats 3200000 in
set_option maxRecDepth 100000 in
theorem BB_3y (kd : UInt8) (vk : Value) (key : List UInt8) (vt : Value) (tp x : List UInt8) (back : Bool) (w : World) (hE : Et w) (hk : SlB w vk key) (ht : SlB w vt tp) (hx : x.length = 16) (hz : bv kd % 3 = 2) (hl : key.length ≤ 100) (hm : tp.length ≤ 2000) (hs : ¬ tp.length < 16) :
    Calls Tryd.prog 5 #[.int .u8 (bv kd), vk, vt, .agg (Bs x), .bool back] w fun e w' => e = .returned (.bool true) ∧ Below w.heap.size w w' := by
  obtain ⟨N, hN⟩ : ∃ N, w.heap.size = N := ⟨_, rfl⟩
  have HN := Lib.hid hN
  have HXL := Lib.hid hx
  have HA := Lib.hid (fun w' (h : Below N w w') => awake05_any w' (hE.under h hN))
  have HS := Lib.hid (fun w' (h : Below N w w') => hk.below (by rw [hN]; exact h))
  have HT := Lib.hid (fun w' (h : Below N w w') => ht.below (by rw [hN]; exact h))
  have i0 : ¬ (key.length : Int) > 100 := by omega
  have i1 : ¬ (tp.length : Int) > 2000 := by omega
  obtain ⟨K, eK⟩ : ∃ K, kright key 4 = K := ⟨_, rfl⟩
  have hKl : K.length = 4 := by rw [← eK, kright_len]
  have HKL := Lib.hid hKl
  have HR5 := Lib.hid (fun w' (h : SlB w' vk key) => right05 3 4 (by decide) vk key w' h)
  rw [eK] at HR5
  obtain ⟨R, eR⟩ : ∃ R, pask [] tp K x back = R := ⟨_, rfl⟩
  obtain ⟨rows, tp1, o⟩ := R
  have hsm := pask_small [] tp K x back
  have hfs := pask_first tp K x back
  have hbk := fun y h => @pask_back [] tp K x y back uq_nil h tp1
  have hag := fun y h => @pask_again [] tp K x y back uq_nil h tp1
  have hyl := fun y h => @pask_len [] tp K x y back (fun _ h => by cases h) h
  rw [eR] at hsm hfs hbk hag hyl
  rcases o with _ | y
  · exact absurd (hfs.1 rfl) hs
  have P2 := hbk y rfl
  have P3 := hag y rfl
  have hyl := hyl y rfl
  have HYL := Lib.hid hyl
  have hsm1 := hsm.1
  have hsm2 := hsm.2
  simp only [List.length_nil] at hsm1 hsm2
  have HTL := Lib.hid hm
  have HD1 := Lib.hid (fun (q vb : Value) (B gb gt : Nat) (w4 : World) (hq : CipO 3 w4 q K gb) (hb : BkAt w4 B gb gt [] tp) (hs : SlB w4 vb x) (hBw : B ≤ w4.heap.size) => by
    have h := Do3_any q vb [] tp B gb gt K x back w4 hq hb (by decide) (by omega) hs hx (by omega) hBw
    rw [eR] at h; exact h)
  have HD2 := Lib.hid (fun (q vb : Value) (B gb gt : Nat) (w4 : World) (hq : CipO 3 w4 q K gb) (hb : BkAt w4 B gb gt rows tp1) (hs : SlB w4 vb y) (hBw : B ≤ w4.heap.size) => by
    have h := Do3_any q vb rows tp1 B gb gt K y (!back) w4 hq hb (by omega) (by omega) hs hyl (by omega) hBw
    rw [P2] at h; exact h)
  have HD3 := Lib.hid (fun (q vb : Value) (B gb gt : Nat) (w4 : World) (hq : CipO 3 w4 q K gb) (hb : BkAt w4 B gb gt rows tp1) (hs : SlB w4 vb x) (hBw : B ≤ w4.heap.size) => by
    have h := Do3_any q vb rows tp1 B gb gt K x back w4 hq hb (by omega) (by omega) hs hx (by omega) hBw
    rw [P3] at h; exact h)
  obtain ⟨A, c, rfl, _⟩ := hk
  obtain ⟨A', c', rfl, _⟩ := ht
  have z0 := bv_ge kd
  have z1 := bv_lt kd
  generalize bv kd = z at z0 z1 hz ⊢
  have harr := arr16_at
  clear hN hE hl hm hs hx hKl eK eR hsm hsm1 hsm2 hfs hbk hag P2 P3 hyl
  go_enter Tryd.func5, Tryd.ntmps5
  go_wp2_with (first
    | ((with_reducible show wpList _ _ _ _ _ w); refine box_blk (w := w) rfl 41 _ rfl x rfl ?_; intro w0 hX0 hG0 hz0; rw [HN.out] at hX0 hz0 ⊢; have hM0 : Below N w w0 := below_none (Below.refl _ _) (by rw [HN.out]; omega) hG0; clear hG0)
    | (go_at_call 10; refine (HA.out w0 hM0).mono ?_; rintro e w1 ⟨rfl, hL1⟩; have hM1 := below_more hM0 hL1 (by omega); have hX1 := hX0.under hL1; have hz1 := hL1.size)
    | (go_at_call 11; refine (book05_any _ tp w1 (HT.out w1 hM1) (by have := HTL.out; omega)).mono ?_; rintro e w2 ⟨gb, gt, rfl, hBk2, hL2⟩; have hM2 := below_more hM1 hL2 (by omega); have hX2 := hX1.under hL2; have hz2 := hL2.size)
    | (go_at_call 16; refine (HR5.out w2 (HS.out w2 hM2)).mono ?_; rintro e w3 ⟨v3, rfl, hO3, hL3⟩; have hM3 := below_more hM2 hL3 (by omega); have hX3 := hX2.under hL3; have hz3 := hL3.size; have hBk3 := hBk2.below hL3)
    | (go_at_call 12; refine (New3_any _ gb K w3 (by rw [HKL.out]; decide) (by rw [HKL.out]; decide) hO3.slB).mono ?_; rintro e w4 ⟨q, rfl, hQ4, hL4⟩; obtain ⟨gq, _, rfl, _⟩ := id hQ4; have hM4 := below_more hM3 hL4 (by omega); have hX4 := hX3.under hL4; have hz4 := hL4.size; have hBk4 := hBk3.below hL4)
    | ((with_reducible show Calls _ _ _ w4 _); go_at_call 15; refine (SizeO_any _ K gb w4 hQ4).mono ?_; rintro e wq ⟨rfl, hq⟩; have hq1 := hq.symm; subst hq1)
    | ((with_reducible show Calls _ _ _ w4 _); go_at_call 17; refine (HD1.out _ _ w1.heap.size gb gt w4 hQ4 hBk4 (hX4.slB (n := 16) HXL.out (by decide)) (by omega)).mono ?_; rintro e w5 ⟨⟨hBk5, HY5⟩, hF5, hM5⟩; (rcases HY5 with ⟨y', G5, h15, _, rfl, hg5, hB5⟩ | ⟨h15, _⟩; rotate_left; (exact absurd h15 (by simp))); have hyy : y = y' := Option.some.inj h15; subst hyy; have hN5 := below_more hM4 hM5 (by omega); have hQ5 := hQ4.fr hF5; have hX5 := hX4.fr (by unfold TyOk; decide) hF5; have hz5 := hM5.size)
    | ((with_reducible show Calls _ _ _ w5 _); go_at_call 17; refine (HD2.out _ _ w1.heap.size gb gt w5 hQ5 hBk5 (hB5.slB (n := 16) HYL.out (by decide)) (by omega)).mono ?_; rintro e w6 ⟨⟨hBk6, HY6⟩, hF6, hM6⟩; (rcases HY6 with ⟨x', G6, h16, _, rfl, hg6, hB6⟩ | ⟨h16, _⟩; rotate_left; (exact absurd h16 (by simp))); have hxx : x = x' := Option.some.inj h16; subst hxx; have hN6 := below_more hN5 hM6 (by omega); have hQ6 := hQ5.fr hF6; have hX6 := hX5.fr (by unfold TyOk; decide) hF6; have hY6 := hB5.fr (by unfold TyOk; decide) hF6; have hz6 := hM6.size)
    | ((with_reducible show Calls _ _ _ w6 _); go_at_call 15; refine (SizeO_any _ K gb w6 hQ6).mono ?_; rintro e wq ⟨rfl, hq⟩; have hq1 := hq.symm; subst hq1)
    | ((with_reducible show Calls _ _ _ w6 _); go_at_call 17; refine (HD3.out _ _ w1.heap.size gb gt w6 hQ6 hBk6 (hX6.slB (n := 16) HXL.out (by decide)) (by omega)).mono ?_; rintro e w7 ⟨⟨hBk7, HY7⟩, hF7, hM7⟩; (rcases HY7 with ⟨y', G7, h17, _, rfl, hg7, hB7⟩ | ⟨h17, _⟩; rotate_left; (exact absurd h17 (by simp))); have hyy : y = y' := Option.some.inj h17; subst hyy; have hN7 := below_more hN6 hM7 (by omega); have hQ7 := hQ6.fr hF7; have hX7 := hX6.fr (by unfold TyOk; decide) hF7; have hY7 := hY6.fr (by unfold TyOk; decide) hF7; have hx7 := hB6.fr (by unfold TyOk; decide) hF7; have hz7 := hM7.size)
    | ((with_reducible show Calls _ _ _ w7 _); go_at_call 15; refine (SizeO_any _ K gb w7 hQ7).mono ?_; rintro e wq ⟨rfl, hq⟩; have hq1 := hq.symm; subst hq1)
    | ((with_reducible show Calls _ _ _ w7 _); go_at_call 19; refine (Same_any _ _ x x w7 (hx7.slB (n := 16) HXL.out (by decide)) (hX7.slB (n := 16) HXL.out (by decide)) (by have := HXL.out; omega)).mono ?_; rintro e w8 ⟨rfl, hD8⟩; have hL8 := hD8.below0; have hN8 := below_more hN7 hL8 (by omega); have hz8 := hL8.size; simp only [beq_self_eq_true])
    | ((with_reducible show Calls _ _ _ w8 _); go_at_call 19; refine (Same_any _ _ y y w8 ((hB7.slB (n := 16) HYL.out (by decide)).below hL8) ((hY7.slB (n := 16) HYL.out (by decide)).below hL8) (by have := HYL.out; omega)).mono ?_; rintro e w9 ⟨rfl, hD9⟩; have hL9 := hD9.below0; have hN9 := below_more hN8 hL9 (by omega); simp only [beq_self_eq_true]))
  go_ret
  exact ⟨rfl, by rw [HN.out]; exact hN9⟩
-- @REST@
theorem doAt (q vb : Value) (B kind : Nat) (key b : List UInt8) (back : Bool) (w : World) (hk : kind = 1 ∨ kind = 2) (h : Cip w B q kind key) (hB : B ≤ w.heap.size) (hf : pfits kind key.length = true) (hs : SlB w vb b) (hb : b.length = psize kind) :
    Calls Tryd.prog 17 #[q, vb, .bool back] w fun e w' => ∃ g T, e = .returned (.tuple #[.slice (some ⟨g, 0, none⟩) (psize kind) (psize kind), .nilIface]) ∧ w.heap.size ≤ g ∧ Blk w' g T (pdo kind key b back) ∧ Below w.heap.size w w' :=
  (Do_any q vb B kind key b back w hk h hB hf hs hb).mono fun e w' ⟨v, he, ⟨g, T, _, hv, hg, hBl⟩, hL⟩ => ⟨g, T, by rw [he, hv, pdo_len kind key b back hk], hg, hBl, hL⟩
theorem pdo_back (kind : Nat) (key b : List UInt8) (back : Bool) (hk : kind = 1 ∨ kind = 2) (hb : b.length = psize kind) : pdo kind key (pdo kind key b back) (!back) = b := by
  rcases hk with rfl | rfl
  · cases back
    · exact pDec_pEnc key b hb
    · exact pEnc_pDec key b hb
  · exact ptriple_back key b back hb
set_option maxHeartbeats 3200000 in
set_option maxRecDepth 100000 in
theorem BB_3n (kd : UInt8) (vk : Value) (key : List UInt8) (vt : Value) (tp x : List UInt8) (back : Bool) (w : World) (hE : Et w) (hk : SlB w vk key) (ht : SlB w vt tp) (hx : x.length = 16) (hz : bv kd % 3 = 2) (hl : key.length ≤ 100) (hm : tp.length ≤ 2000) (hs : tp.length < 16) :
    Calls Tryd.prog 5 #[.int .u8 (bv kd), vk, vt, .agg (Bs x), .bool back] w fun e w' => e = .returned (.bool true) ∧ Below w.heap.size w w' := by
  obtain ⟨N, hN⟩ : ∃ N, w.heap.size = N := ⟨_, rfl⟩
  have HN := Lib.hid hN
  have HXL := Lib.hid hx
  have HA := Lib.hid (fun w' (h : Below N w w') => awake05_any w' (hE.under h hN))
  have HS := Lib.hid (fun w' (h : Below N w w') => hk.below (by rw [hN]; exact h))
  have HT := Lib.hid (fun w' (h : Below N w w') => ht.below (by rw [hN]; exact h))
  have i0 : ¬ (key.length : Int) > 100 := by omega
  have i1 : ¬ (tp.length : Int) > 2000 := by omega
  obtain ⟨K, eK⟩ : ∃ K, kright key 4 = K := ⟨_, rfl⟩
  have hKl : K.length = 4 := by rw [← eK, kright_len]
  have HKL := Lib.hid hKl
  have HR5 := Lib.hid (fun w' (h : SlB w' vk key) => right05 3 4 (by decide) vk key w' h)
  rw [eK] at HR5
  obtain ⟨R, eR⟩ : ∃ R, pask [] tp K x back = R := ⟨_, rfl⟩
  obtain ⟨rows, tp1, o⟩ := R
  have hfs := (pask_first tp K x back).2 hs
  rw [eR] at hfs
  obtain rfl : o = none := hfs
  have HTL := Lib.hid hm
  have HD1 := Lib.hid (fun (q vb : Value) (B gb gt : Nat) (w4 : World) (hq : CipO 3 w4 q K gb) (hb : BkAt w4 B gb gt [] tp) (hs : SlB w4 vb x) (hBw : B ≤ w4.heap.size) => by
    have h := Do3_any q vb [] tp B gb gt K x back w4 hq hb (by decide) (by omega) hs hx (by omega) hBw
    rw [eR] at h; exact h)
  have i2 : (tp.length : Int) < 16 := by omega
  obtain ⟨A, c, rfl, _⟩ := hk
  obtain ⟨A', c', rfl, _⟩ := ht
  have z0 := bv_ge kd
  have z1 := bv_lt kd
  generalize bv kd = z at z0 z1 hz ⊢
  have harr := arr16_at
  clear hN hE hl hm hs hx hKl eK eR
  go_enter Tryd.func5, Tryd.ntmps5
  go_wp2_with (first
    | ((with_reducible show wpList _ _ _ _ _ w); refine box_blk (w := w) rfl 41 _ rfl x rfl ?_; intro w0 hX0 hG0 hz0; rw [HN.out] at hX0 hz0 ⊢; have hM0 : Below N w w0 := below_none (Below.refl _ _) (by rw [HN.out]; omega) hG0; clear hG0)
    | (go_at_call 10; refine (HA.out w0 hM0).mono ?_; rintro e w1 ⟨rfl, hL1⟩; have hM1 := below_more hM0 hL1 (by omega); have hX1 := hX0.under hL1; have hz1 := hL1.size)
    | (go_at_call 11; refine (book05_any _ tp w1 (HT.out w1 hM1) (by have := HTL.out; omega)).mono ?_; rintro e w2 ⟨gb, gt, rfl, hBk2, hL2⟩; have hM2 := below_more hM1 hL2 (by omega); have hX2 := hX1.under hL2; have hz2 := hL2.size)
    | (go_at_call 16; refine (HR5.out w2 (HS.out w2 hM2)).mono ?_; rintro e w3 ⟨v3, rfl, hO3, hL3⟩; have hM3 := below_more hM2 hL3 (by omega); have hX3 := hX2.under hL3; have hz3 := hL3.size; have hBk3 := hBk2.below hL3)
    | (go_at_call 12; refine (New3_any _ gb K w3 (by rw [HKL.out]; decide) (by rw [HKL.out]; decide) hO3.slB).mono ?_; rintro e w4 ⟨q, rfl, hQ4, hL4⟩; obtain ⟨gq, _, rfl, _⟩ := id hQ4; have hM4 := below_more hM3 hL4 (by omega); have hX4 := hX3.under hL4; have hz4 := hL4.size; have hBk4 := hBk3.below hL4)
    | ((with_reducible show Calls _ _ _ w4 _); go_at_call 15; refine (SizeO_any _ K gb w4 hQ4).mono ?_; rintro e wq ⟨rfl, hq⟩; have hq1 := hq.symm; subst hq1)
    | ((with_reducible show Calls _ _ _ w4 _); go_at_call 17; refine (HD1.out _ _ w1.heap.size gb gt w4 hQ4 hBk4 (hX4.slB (n := 16) HXL.out (by decide)) (by omega)).mono ?_; rintro e w5 ⟨⟨hBk5, HY5⟩, hF5, hM5⟩; (rcases HY5 with ⟨_, _, h15, _⟩ | ⟨_, v5, a5, rfl, ha5, hE5⟩; (exact absurd h15 (by simp))); obtain ⟨eT, ex, rfl⟩ := hE5.form; have hN5 := below_more hM4 hM5 (by omega)))
  go_ret
  exact ⟨rfl, by rw [HN.out]; exact hN5⟩
set_option maxHeartbeats 3200000 in
set_option maxRecDepth 100000 in
theorem BB_1 (kd : UInt8) (vk : Value) (key : List UInt8) (vt : Value) (tp x : List UInt8) (back : Bool) (w : World) (hE : Et w) (hk : SlB w vk key) (ht : SlB w vt tp) (hx : x.length = 16) (hz : bv kd % 3 = 0) (hl : key.length ≤ 100) (hm : tp.length ≤ 2000) :
    Calls Tryd.prog 5 #[.int .u8 (bv kd), vk, vt, .agg (Bs x), .bool back] w fun e w' => e = .returned (.bool true) ∧ Below w.heap.size w w' := by
  obtain ⟨N, hN⟩ : ∃ N, w.heap.size = N := ⟨_, rfl⟩
  have HN := Lib.hid hN
  have HXL := Lib.hid hx
  have HA := Lib.hid (fun w' (h : Below N w w') => awake05_any w' (hE.under h hN))
  have HS := Lib.hid (fun w' (h : Below N w w') => hk.below (by rw [hN]; exact h))
  have HT := Lib.hid (fun w' (h : Below N w w') => ht.below (by rw [hN]; exact h))
  have i0 : ¬ (key.length : Int) > 100 := by omega
  have i1 : ¬ (tp.length : Int) > 2000 := by omega
  obtain ⟨K, eK⟩ : ∃ K, kright key 16 = K := ⟨_, rfl⟩
  have hKl : K.length = 16 := by rw [← eK, kright_len]
  have HKL := Lib.hid hKl
  have HR5 := Lib.hid (fun w' (h : SlB w' vk key) => right05 1 16 (by decide) vk key w' h)
  rw [eK] at HR5
  have HTL := Lib.hid hm
  have hpf : pfits 1 K.length = true := by rw [hKl]; decide
  have HPF := Lib.hid hpf
  obtain ⟨x8, e8⟩ : ∃ x8, x.take 16 = x8 := ⟨_, rfl⟩
  have hx8 : x8.length = psize 1 := by rw [← e8, List.length_take, hx]; decide
  have HX8 := Lib.hid hx8
  obtain ⟨y, ey⟩ : ∃ y, pdo 1 K x8 back = y := ⟨_, rfl⟩
  have hyl : y.length = psize 1 := by rw [← ey]; exact pdo_len 1 _ _ _ (by decide)
  have HYL := Lib.hid hyl
  have ex : pdo 1 K y (!back) = x8 := by rw [← ey]; exact pdo_back 1 K x8 back (by decide) hx8
  have HD1 := Lib.hid (fun (q vb : Value) (B : Nat) (w4 : World) (hq : Cip w4 B q 1 K) (hB : B ≤ w4.heap.size) (hs : SlB w4 vb x8) => by
    have h := doAt q vb B 1 K x8 back w4 (by decide) hq hB (by rw [hKl]; decide) hs hx8
    rw [ey] at h; exact h)
  have HD2 := Lib.hid (fun (q vb : Value) (B : Nat) (w4 : World) (hq : Cip w4 B q 1 K) (hB : B ≤ w4.heap.size) (hs : SlB w4 vb y) => by
    have h := doAt q vb B 1 K y (!back) w4 (by decide) hq hB (by rw [hKl]; decide) hs hyl
    rw [ex] at h; exact h)
  have HSl := Lib.hid (fun (w' : World) (h : Blk w' N 41 x) => show SlB w' (.slice (some ⟨N, 0, none⟩) 16 16) x8 from by rw [← e8]; exact h.slTo (n := 16) hx (by decide) (by decide))
  obtain ⟨A, c, rfl, _⟩ := hk
  obtain ⟨A', c', rfl, _⟩ := ht
  have z0 := bv_ge kd
  have z1 := bv_lt kd
  generalize bv kd = z at z0 z1 hz ⊢
  have harr := arr16_at
  clear hN hE hl hm hx hKl eK hpf e8 hx8 ey hyl ex
  go_enter Tryd.func5, Tryd.ntmps5
  go_wp2_with (first
    | ((with_reducible show wpList _ _ _ _ _ w); refine box_blk (w := w) rfl 41 _ rfl x rfl ?_; intro w0 hX0 hG0 hz0; rw [HN.out] at hX0 hz0 ⊢; have hM0 : Below N w w0 := below_none (Below.refl _ _) (by rw [HN.out]; omega) hG0; clear hG0)
    | (go_at_call 10; refine (HA.out w0 hM0).mono ?_; rintro e w1 ⟨rfl, hL1⟩; have hM1 := below_more hM0 hL1 (by omega); have hX1 := hX0.under hL1; have hz1 := hL1.size)
    | (go_at_call 11; refine (book05_any _ tp w1 (HT.out w1 hM1) (by have := HTL.out; omega)).mono ?_; rintro e w2 ⟨gb, gt, rfl, hBk2, hL2⟩; have hM2 := below_more hM1 hL2 (by omega); have hX2 := hX1.under hL2; have hz2 := hL2.size)
    | (go_at_call 16; refine (HR5.out w2 (HS.out w2 hM2)).mono ?_; rintro e w3 ⟨v3, rfl, hO3, hL3⟩; have hM3 := below_more hM2 hL3 (by omega); have hX3 := hX2.under hL3; have hz3 := hL3.size; have hBk3 := hBk2.below hL3)
    | (go_at_call 12; refine (New_bk1 _ _ K w3 HPF.out hO3.slB).mono ?_; rintro e w4 ⟨q, rfl, hC4, hL4⟩; obtain ⟨gq, _, _, rfl, _⟩ := id hC4; have hM4 := below_more hM3 hL4 (by omega); have hX4 := hX3.under hL4; have hz4 := hL4.size)
    | ((with_reducible show Calls _ _ _ w4 _); go_at_call 15; refine (Size_any _ 1 _ K w4 hC4).mono ?_; rintro e wq ⟨rfl, hq⟩; have hq1 := hq.symm; subst hq1; rw [show psize 1 = 16 from rfl])
    | ((with_reducible show Calls _ _ _ w4 _); go_at_call 17; refine (HD1.out _ _ _ w4 hC4 (by omega) (HSl.out w4 hX4)).mono ?_; rintro e w5 ⟨g5, T5, rfl, hg5, hB5, hL5⟩; have hM5 := below_more hM4 hL5 (by omega); have hz5 := hL5.size; have hC5 := hC4.below hL5 (by omega); have hX5 := hX4.under hL5)
    | ((with_reducible show Calls _ _ _ w5 _); go_at_call 17; refine (HD2.out _ _ _ w5 hC5 (by omega) (hB5.slB (n := 16) HYL.out (by decide))).mono ?_; rintro e w6 ⟨g6, T6, rfl, hg6, hB6, hL6⟩; have hM6 := below_more hM5 hL6 (by omega); have hz6 := hL6.size; have hC6 := hC5.below hL6 (by omega); have hX6 := hX5.under hL6; have hY6 := hB5.under hL6)
    | ((with_reducible show Calls _ _ _ w6 _); go_at_call 15; refine (Size_any _ 1 _ K w6 hC6).mono ?_; rintro e wq ⟨rfl, hq⟩; have hq1 := hq.symm; subst hq1; rw [show psize 1 = 16 from rfl])
    | ((with_reducible show Calls _ _ _ w6 _); go_at_call 17; refine (HD1.out _ _ _ w6 hC6 (by omega) (HSl.out w6 hX6)).mono ?_; rintro e w7 ⟨g7, T7, rfl, hg7, hB7, hL7⟩; have hM7 := below_more hM6 hL7 (by omega); have hz7 := hL7.size; have hC7 := hC6.below hL7 (by omega); have hX7 := hX6.under hL7; have hY7 := hY6.under hL7; have hx7 := hB6.under hL7)
    | ((with_reducible show Calls _ _ _ w7 _); go_at_call 15; refine (Size_any _ 1 _ K w7 hC7).mono ?_; rintro e wq ⟨rfl, hq⟩; have hq1 := hq.symm; subst hq1; rw [show psize 1 = 16 from rfl])
    | ((with_reducible show Calls _ _ _ w7 _); go_at_call 19; refine (Same_any _ _ x8 x8 w7 (hx7.slB (n := 16) HX8.out (by decide)) (HSl.out w7 hX7) (by rw [HX8.out]; decide)).mono ?_; rintro e w8 ⟨rfl, hD8⟩; have hL8 := hD8.below0; have hN8 := below_more hM7 hL8 (by omega); have hz8 := hL8.size; simp only [beq_self_eq_true])
    | ((with_reducible show Calls _ _ _ w8 _); go_at_call 19; refine (Same_any _ _ y y w8 ((hB7.slB (n := 16) HYL.out (by decide)).below hL8) ((hY7.slB (n := 16) HYL.out (by decide)).below hL8) (by rw [HYL.out]; decide)).mono ?_; rintro e w9 ⟨rfl, hD9⟩; have hL9 := hD9.below0; have hN9 := below_more hN8 hL9 (by omega); simp only [beq_self_eq_true]))
  go_ret
  exact ⟨rfl, by rw [HN.out]; exact hN9⟩
set_option maxHeartbeats 3200000 in
set_option maxRecDepth 100000 in
theorem BB_2 (kd : UInt8) (vk : Value) (key : List UInt8) (vt : Value) (tp x : List UInt8) (back : Bool) (w : World) (hE : Et w) (hk : SlB w vk key) (ht : SlB w vt tp) (hx : x.length = 16) (hz : bv kd % 3 = 1) (hl : key.length ≤ 100) (hm : tp.length ≤ 2000) :
    Calls Tryd.prog 5 #[.int .u8 (bv kd), vk, vt, .agg (Bs x), .bool back] w fun e w' => e = .returned (.bool true) ∧ Below w.heap.size w w' := by
  obtain ⟨N, hN⟩ : ∃ N, w.heap.size = N := ⟨_, rfl⟩
  have HN := Lib.hid hN
  have HXL := Lib.hid hx
  have HA := Lib.hid (fun w' (h : Below N w w') => awake05_any w' (hE.under h hN))
  have HS := Lib.hid (fun w' (h : Below N w w') => hk.below (by rw [hN]; exact h))
  have HT := Lib.hid (fun w' (h : Below N w w') => ht.below (by rw [hN]; exact h))
  have i0 : ¬ (key.length : Int) > 100 := by omega
  have i1 : ¬ (tp.length : Int) > 2000 := by omega
  obtain ⟨K, eK⟩ : ∃ K, kright key 24 = K := ⟨_, rfl⟩
  have hKl : K.length = 24 := by rw [← eK, kright_len]
  have HKL := Lib.hid hKl
  have HR5 := Lib.hid (fun w' (h : SlB w' vk key) => right05 2 24 (by decide) vk key w' h)
  rw [eK] at HR5
  have HTL := Lib.hid hm
  have hpf : pfits 2 K.length = true := by rw [hKl]; decide
  have HPF := Lib.hid hpf
  obtain ⟨x8, e8⟩ : ∃ x8, x.take 8 = x8 := ⟨_, rfl⟩
  have hx8 : x8.length = psize 2 := by rw [← e8, List.length_take, hx]; decide
  have HX8 := Lib.hid hx8
  obtain ⟨y, ey⟩ : ∃ y, pdo 2 K x8 back = y := ⟨_, rfl⟩
  have hyl : y.length = psize 2 := by rw [← ey]; exact pdo_len 2 _ _ _ (by decide)
  have HYL := Lib.hid hyl
  have ex : pdo 2 K y (!back) = x8 := by rw [← ey]; exact pdo_back 2 K x8 back (by decide) hx8
  have HD1 := Lib.hid (fun (q vb : Value) (B : Nat) (w4 : World) (hq : Cip w4 B q 2 K) (hB : B ≤ w4.heap.size) (hs : SlB w4 vb x8) => by
    have h := doAt q vb B 2 K x8 back w4 (by decide) hq hB (by rw [hKl]; decide) hs hx8
    rw [ey] at h; exact h)
  have HD2 := Lib.hid (fun (q vb : Value) (B : Nat) (w4 : World) (hq : Cip w4 B q 2 K) (hB : B ≤ w4.heap.size) (hs : SlB w4 vb y) => by
    have h := doAt q vb B 2 K y (!back) w4 (by decide) hq hB (by rw [hKl]; decide) hs hyl
    rw [ex] at h; exact h)
  have HSl := Lib.hid (fun (w' : World) (h : Blk w' N 41 x) => show SlB w' (.slice (some ⟨N, 0, none⟩) 8 16) x8 from by rw [← e8]; exact h.slTo (n := 8) hx (by decide) (by decide))
  obtain ⟨A, c, rfl, _⟩ := hk
  obtain ⟨A', c', rfl, _⟩ := ht
  have z0 := bv_ge kd
  have z1 := bv_lt kd
  generalize bv kd = z at z0 z1 hz ⊢
  have harr := arr16_at
  clear hN hE hl hm hx hKl eK hpf e8 hx8 ey hyl ex
  go_enter Tryd.func5, Tryd.ntmps5
  go_wp2_with (first
    | ((with_reducible show wpList _ _ _ _ _ w); refine box_blk (w := w) rfl 41 _ rfl x rfl ?_; intro w0 hX0 hG0 hz0; rw [HN.out] at hX0 hz0 ⊢; have hM0 : Below N w w0 := below_none (Below.refl _ _) (by rw [HN.out]; omega) hG0; clear hG0)
    | (go_at_call 10; refine (HA.out w0 hM0).mono ?_; rintro e w1 ⟨rfl, hL1⟩; have hM1 := below_more hM0 hL1 (by omega); have hX1 := hX0.under hL1; have hz1 := hL1.size)
    | (go_at_call 11; refine (book05_any _ tp w1 (HT.out w1 hM1) (by have := HTL.out; omega)).mono ?_; rintro e w2 ⟨gb, gt, rfl, hBk2, hL2⟩; have hM2 := below_more hM1 hL2 (by omega); have hX2 := hX1.under hL2; have hz2 := hL2.size)
    | (go_at_call 16; refine (HR5.out w2 (HS.out w2 hM2)).mono ?_; rintro e w3 ⟨v3, rfl, hO3, hL3⟩; have hM3 := below_more hM2 hL3 (by omega); have hX3 := hX2.under hL3; have hz3 := hL3.size; have hBk3 := hBk2.below hL3)
    | (go_at_call 12; refine (New_bk2 _ _ K w3 HPF.out hO3.slB).mono ?_; rintro e w4 ⟨q, rfl, hC4, hL4⟩; obtain ⟨gq, _, _, rfl, _⟩ := id hC4; have hM4 := below_more hM3 hL4 (by omega); have hX4 := hX3.under hL4; have hz4 := hL4.size)
    | ((with_reducible show Calls _ _ _ w4 _); go_at_call 15; refine (Size_any _ 2 _ K w4 hC4).mono ?_; rintro e wq ⟨rfl, hq⟩; have hq1 := hq.symm; subst hq1; rw [show psize 2 = 8 from rfl])
    | ((with_reducible show Calls _ _ _ w4 _); go_at_call 17; refine (HD1.out _ _ _ w4 hC4 (by omega) (HSl.out w4 hX4)).mono ?_; rintro e w5 ⟨g5, T5, rfl, hg5, hB5, hL5⟩; have hM5 := below_more hM4 hL5 (by omega); have hz5 := hL5.size; have hC5 := hC4.below hL5 (by omega); have hX5 := hX4.under hL5)
    | ((with_reducible show Calls _ _ _ w5 _); go_at_call 17; refine (HD2.out _ _ _ w5 hC5 (by omega) (hB5.slB (n := 8) HYL.out (by decide))).mono ?_; rintro e w6 ⟨g6, T6, rfl, hg6, hB6, hL6⟩; have hM6 := below_more hM5 hL6 (by omega); have hz6 := hL6.size; have hC6 := hC5.below hL6 (by omega); have hX6 := hX5.under hL6; have hY6 := hB5.under hL6)
    | ((with_reducible show Calls _ _ _ w6 _); go_at_call 15; refine (Size_any _ 2 _ K w6 hC6).mono ?_; rintro e wq ⟨rfl, hq⟩; have hq1 := hq.symm; subst hq1; rw [show psize 2 = 8 from rfl])
    | ((with_reducible show Calls _ _ _ w6 _); go_at_call 17; refine (HD1.out _ _ _ w6 hC6 (by omega) (HSl.out w6 hX6)).mono ?_; rintro e w7 ⟨g7, T7, rfl, hg7, hB7, hL7⟩; have hM7 := below_more hM6 hL7 (by omega); have hz7 := hL7.size; have hC7 := hC6.below hL7 (by omega); have hX7 := hX6.under hL7; have hY7 := hY6.under hL7; have hx7 := hB6.under hL7)
    | ((with_reducible show Calls _ _ _ w7 _); go_at_call 15; refine (Size_any _ 2 _ K w7 hC7).mono ?_; rintro e wq ⟨rfl, hq⟩; have hq1 := hq.symm; subst hq1; rw [show psize 2 = 8 from rfl])
    | ((with_reducible show Calls _ _ _ w7 _); go_at_call 19; refine (Same_any _ _ x8 x8 w7 (hx7.slB (n := 8) HX8.out (by decide)) (HSl.out w7 hX7) (by rw [HX8.out]; decide)).mono ?_; rintro e w8 ⟨rfl, hD8⟩; have hL8 := hD8.below0; have hN8 := below_more hM7 hL8 (by omega); have hz8 := hL8.size; simp only [beq_self_eq_true])
    | ((with_reducible show Calls _ _ _ w8 _); go_at_call 19; refine (Same_any _ _ y y w8 ((hB7.slB (n := 8) HYL.out (by decide)).below hL8) ((hY7.slB (n := 8) HYL.out (by decide)).below hL8) (by rw [HYL.out]; decide)).mono ?_; rintro e w9 ⟨rfl, hD9⟩; have hL9 := hD9.below0; have hN9 := below_more hN8 hL9 (by omega); simp only [beq_self_eq_true]))
  go_ret
  exact ⟨rfl, by rw [HN.out]; exact hN9⟩
set_option maxHeartbeats 3200000 in
set_option maxRecDepth 100000 in
theorem BB_long1 (kd : UInt8) (vk : Value) (key : List UInt8) (vt : Value) (tp x : List UInt8) (back : Bool) (w : World) (hE : Et w) (hk : SlB w vk key) (ht : SlB w vt tp) (hx : x.length = 16) (hl : ¬ key.length ≤ 100) :
    Calls Tryd.prog 5 #[.int .u8 (bv kd), vk, vt, .agg (Bs x), .bool back] w fun e w' => e = .returned (.bool true) ∧ Below w.heap.size w w' := by
  obtain ⟨N, hN⟩ : ∃ N, w.heap.size = N := ⟨_, rfl⟩
  have HN := Lib.hid hN
  have HA := Lib.hid (fun w' (h : Below N w w') => awake05_any w' (hE.under h hN))
  have i0 : (key.length : Int) > 100 := by omega
  obtain ⟨A, c, rfl, _⟩ := hk
  obtain ⟨A', c', rfl, _⟩ := ht
  have z0 := bv_ge kd
  have z1 := bv_lt kd
  generalize bv kd = z at z0 z1 ⊢
  clear hN hE hx hl
  go_enter Tryd.func5, Tryd.ntmps5
  go_wp2_with (first
    | ((with_reducible show wpList _ _ _ _ _ w); refine box_blk (w := w) rfl 41 _ rfl x rfl ?_; intro w0 hX0 hG0 hz0; rw [HN.out] at hX0 hz0 ⊢; have hM0 : Below N w w0 := below_none (Below.refl _ _) (by rw [HN.out]; omega) hG0; clear hG0)
    | ((with_reducible show Calls _ _ _ w0 _); go_at_call 10; refine (HA.out w0 hM0).mono ?_; rintro e w1 ⟨rfl, hL1⟩; have hM1 := below_more hM0 hL1 (by omega); have hz1 := hL1.size)
    | ((with_reducible show Calls _ _ _ w1 _); go_at_call 10; refine (HA.out w1 hM1).mono ?_; rintro e w2 ⟨rfl, hL2⟩; have hM2 := below_more hM1 hL2 (by omega)))
  go_ret
  exact ⟨rfl, by rw [HN.out]; exact hM2⟩
set_option maxHeartbeats 3200000 in
set_option maxRecDepth 100000 in
theorem BB_long2 (kd : UInt8) (vk : Value) (key : List UInt8) (vt : Value) (tp x : List UInt8) (back : Bool) (w : World) (hE : Et w) (hk : SlB w vk key) (ht : SlB w vt tp) (hx : x.length = 16) (hl : key.length ≤ 100) (hm : ¬ tp.length ≤ 2000) :
    Calls Tryd.prog 5 #[.int .u8 (bv kd), vk, vt, .agg (Bs x), .bool back] w fun e w' => e = .returned (.bool true) ∧ Below w.heap.size w w' := by
  obtain ⟨N, hN⟩ : ∃ N, w.heap.size = N := ⟨_, rfl⟩
  have HN := Lib.hid hN
  have HA := Lib.hid (fun w' (h : Below N w w') => awake05_any w' (hE.under h hN))
  have i0 : ¬ (key.length : Int) > 100 := by omega
  have i1 : (tp.length : Int) > 2000 := by omega
  obtain ⟨A, c, rfl, _⟩ := hk
  obtain ⟨A', c', rfl, _⟩ := ht
  have z0 := bv_ge kd
  have z1 := bv_lt kd
  generalize bv kd = z at z0 z1 ⊢
  clear hN hE hx hl hm
  go_enter Tryd.func5, Tryd.ntmps5
  go_wp2_with (first
    | ((with_reducible show wpList _ _ _ _ _ w); refine box_blk (w := w) rfl 41 _ rfl x rfl ?_; intro w0 hX0 hG0 hz0; rw [HN.out] at hX0 hz0 ⊢; have hM0 : Below N w w0 := below_none (Below.refl _ _) (by rw [HN.out]; omega) hG0; clear hG0)
    | ((with_reducible show Calls _ _ _ w0 _); go_at_call 10; refine (HA.out w0 hM0).mono ?_; rintro e w1 ⟨rfl, hL1⟩; have hM1 := below_more hM0 hL1 (by omega); have hz1 := hL1.size)
    | ((with_reducible show Calls _ _ _ w1 _); go_at_call 10; refine (HA.out w1 hM1).mono ?_; rintro e w2 ⟨rfl, hL2⟩; have hM2 := below_more hM1 hL2 (by omega)))
  go_ret
  exact ⟨rfl, by rw [HN.out]; exact hM2⟩
theorem BlockBack_any (kd : UInt8) (vk : Value) (key : List UInt8) (vt : Value) (tp x : List UInt8) (back : Bool) (w : World) (hE : Et w) (hk : SlB w vk key) (ht : SlB w vt tp) (hx : x.length = 16) :
    Calls Tryd.prog 5 #[.int .u8 (bv kd), vk, vt, .agg (Bs x), .bool back] w fun e w' => e = .returned (.bool true) ∧ Below w.heap.size w w' := by
  by_cases hl : key.length ≤ 100
  · by_cases hm : tp.length ≤ 2000
    · have z0 := bv_ge kd
      have z1 := bv_lt kd
      rcases (show bv kd % 3 = 0 ∨ bv kd % 3 = 1 ∨ bv kd % 3 = 2 by omega) with hz | hz | hz
      · exact BB_1 kd vk key vt tp x back w hE hk ht hx hz hl hm
      · exact BB_2 kd vk key vt tp x back w hE hk ht hx hz hl hm
      · by_cases hs : tp.length < 16
        · exact BB_3n kd vk key vt tp x back w hE hk ht hx hz hl hm hs
        · exact BB_3y kd vk key vt tp x back w hE hk ht hx hz hl hm hs
    · exact BB_long2 kd vk key vt tp x back w hE hk ht hx hl hm
  · exact BB_long1 kd vk key vt tp x back w hE hk ht hx hl
end Go.Proofs.YtbbfjlnkhenbiaaDoor
set_option linter.unusedVariables false
set_option linter.unusedSimpArgs false
namespace Lk
open Go Go.RowKit
/-- a slice of whole numbers as it is read -/
def IsRow (k : IntKind) (w : World) (a : Option Addr) (len cap : Nat) (zs : List Int) : Prop :=
  (a = none ∧ len = 0 ∧ cap = 0 ∧ zs = []) ∨
  ∃ x, a = some x ∧ len ≤ cap ∧ cap ≤ maxLen ∧ zs.length = cap ∧ (∀ i, i < zs.length → w.cell? (x.add i) = some (.int k (zs.getD i 0))) ∧ ∀ n ∈ zs, (Lit.int k n).wf = true
theorem u8_of_wf {n : Int} (h : (Lit.int .u8 n).wf = true) : n = bv (UInt8.ofNat n.toNat) := by
  obtain ⟨a, rfl⟩ := open_u8 h
  unfold bv
  simp
theorem slB_of_row {w : World} {a : Option Addr} {len cap : Nat} {zs : List Int} (h : IsRow .u8 w a len cap zs) : ∃ l : List UInt8, l.length = len ∧ SlB w (.slice a len cap) l := by
  rcases h with ⟨rfl, rfl, rfl, rfl⟩ | ⟨x, rfl, h1, h2, h3, h4, h5⟩
  · exact ⟨[], rfl, none, 0, rfl, fun _ => rfl, Nat.le_refl _, Nat.zero_le _, fun h => by omega⟩
  · have hl : ((zs.take len).map fun z => UInt8.ofNat z.toNat).length = len := by simp; omega
    refine ⟨(zs.take len).map fun z => UInt8.ofNat z.toNat, hl, some x, cap, by rw [hl], fun h => (by cases h), by rw [hl]; exact h1, h2, fun hc => ?_⟩
    have hx : x.spot = none := by
      have := h4 0 (by omega)
      have e : x.add 0 = x := by simp [Addr.add]
      rw [e] at this
      unfold World.cell? at this
      split at this
      · split at this
        · cases this
        · rename_i hs; simpa using hs
      · cases this
    obtain ⟨g, o, s⟩ := x
    cases hx
    refine ⟨g, o, rfl, fun k hk => ?_⟩
    rw [hl] at hk
    have hc := h4 k (by omega)
    have ea : (⟨g, o, none⟩ : Addr).add k = ⟨g, o + k, none⟩ := by unfold Addr.add; split <;> simp_all
    rw [ea] at hc
    rw [hc]
    have hm : zs.getD k 0 ∈ zs := by
      have : k < zs.length := by omega
      simp [this]
    have := u8_of_wf (h5 _ hm)
    have e : g8 ((zs.take len).map fun z => UInt8.ofNat z.toNat) k = UInt8.ofNat (zs.getD k 0).toNat := by
      unfold g8
      have : k < zs.length := by omega
      simp [List.getElem?_take, hk, this]
    rw [e, ← this]
section
variable {P : Program} {H : Type} {enc : TypeId × Value → H}
theorem open_slice_u8 {t e : TypeId} {W : World} {a : Option Addr} {len cap : Nat} {d : DataW H} {ps : List MemPlace} (ht : P.underlying t = some (.slice e)) (he : P.underlying e = some (.int .u8)) (hc : P.cellsOf e = 1)
    (h : DataW.Trod enc P W 0 (fun _ => true) true t (.slice a len cap) d ps) : ∃ l : List UInt8, l.length = len ∧ SlB W (.slice a len cap) l := by
  obtain ⟨zs, hz⟩ : ∃ zs, IsRow .u8 W a len cap zs := by
    obtain ⟨fuel, hf⟩ := h
    rcases Go.ChangeShapes.open_ints ht he hc hf with ⟨hcs, _⟩ | ⟨x, l, c, zs, hcs, _, hl, hm, hz, _, hcell, hwz⟩
    · simp [Value.cells] at hcs
      obtain ⟨rfl, rfl, rfl⟩ := hcs
      exact ⟨[], .inl ⟨rfl, rfl, rfl, rfl⟩⟩
    · simp [Value.cells] at hcs
      obtain ⟨rfl, rfl, rfl⟩ := hcs
      exact ⟨zs, .inr ⟨_, rfl, hl, hm, by simpa using hz, hcell, hwz⟩⟩
  exact slB_of_row hz
/-- an array of bytes -/
theorem open_arr_u8 {t e n : Nat} {W : World} {r : Reach} {base : Nat} {v : Value} (ht : P.underlying t = some (.array n e)) (he : P.underlying e = some (.int .u8)) (hc : P.cellsOf t = n) (hct : P.cellTypes P.depth t = some (List.replicate n e)) (hn : 0 < n)
    (h : Value.okWide P W r base t v) : ∃ l : List UInt8, l.length = n ∧ v = .agg (Bs l) := by
  simp only [Value.okWide, ht] at h
  obtain ⟨cs, rfl, hsz, ts, hts, _, hcell⟩ := h
  rw [hct] at hts
  cases hts
  rw [hc] at hsz
  refine ⟨cs.toList.map fun v => match v with | .int _ z => UInt8.ofNat z.toNat | _ => 0, by simp [hsz], ?_⟩
  congr 1
  apply Array.ext
  · simp [Bs]
  · intro i h1 h2
    obtain ⟨u, hu, hok⟩ := hcell i cs[i] (by simp [h1])
    have hue : u = e := by
      rw [List.getElem?_replicate] at hu
      split at hu
      · cases hu; rfl
      · cases hu
    subst hue
    simp only [Cell.okWide, he] at hok
    simp only [Bs, List.map_map, List.getElem_toArray, List.getElem_map, Function.comp_apply, Array.getElem_toList]
    cases hv : cs[i] with
    | int k z =>
      rw [hv] at hok
      simp only [Cell.ok, he] at hok
      obtain ⟨rfl, hw⟩ := hok
      have hw' : (Lit.int .u8 z).wf = true := by
        unfold Lit.wf
        rw [Bool.and_eq_true]
        exact ⟨decide_eq_true hw.1, decide_eq_true hw.2⟩
      simp only [← u8_of_wf hw']
    | _ => rw [hv] at hok; simp [Cell.ok, he] at hok
end
end Lk
set_option linter.unusedVariables false
namespace Go.Proofs.YtbbfjlnkhenbiaaDoor
open Go.ChangeShapes Go.WideShapes Go.RowKit
theorem ownKnobNone : ownKnob Tryd.prog.godebug = none := by kernel_rfl
theorem laidOutAll : laidOutB Tryd.prog = true := by kernel_rfl
theorem fct_laid : laidOutB Tryd.checked.prog = true := by kernel_rfl
theorem fct_maps : mapsRowed Tryd.checked.prog = true := by kernel_rfl
theorem fct_main : Tryd.pinned.checked.prog.mainIs = some (true, "ee270539b4f67e477ad7bbb92b61b104b35191debdef8cb44a0abfd087db6748".toList) := by kernel_rfl
theorem fct_looks : true = Tryd.pinned.checked.prog.looks [] := by kernel_rfl
def laidList : List (String × DataW Unit) := [("errors.errorType", Rows.laid_errors_errorType)]
theorem et_g : Tryd.prog.globalNamed "errors.errorType" = some 0 := by kernel_rfl
theorem et_rt : (Tryd.prog.cutTypes.find? (·.1 == "internal/reflectlite.rtype")).map (·.2) = some 131 := by kernel_rfl
theorem et_row : ((List.range 216).filter fun t => Tryd.prog.rowNamed t [101, 114, 114, 111, 114]) = [29] := by kernel_rfl
theorem et_size : Tryd.prog.types.size = 216 := by kernel_rfl
theorem handle_of_laid {W : World} (h : laidMetH Tryd.prog laidList W) : Et W := by
  have h' : laidMet Tryd.prog [] W ∧ handlesMet Tryd.prog laidList W := h
  obtain ⟨name, u, ty, e1, e2, e3, e4, e5⟩ := h'.2 _ (List.mem_singleton.2 rfl)
  have en : name = [101, 114, 114, 111, 114] := (Option.some.inj e1).symm
  subst en
  obtain rfl := Option.some.inj (et_rt.symm.trans e2)
  have hm : ty ∈ (List.range 216).filter fun t => Tryd.prog.rowNamed t [101, 114, 114, 111, 114] := List.mem_filter.2 ⟨List.mem_range.2 (by rw [← et_size]; exact e3), e4⟩
  rw [et_row] at hm
  obtain rfl := List.mem_singleton.1 hm
  have hh : typeHandle Tryd.prog 29 = .pointer (some ⟨2, 29, none⟩) := by kernel_rfl
  rw [hh] at e5
  have := World.var?_cell et_g e5 0
  unfold Et hnd
  simpa using this
noncomputable def laidWorld (os : Os) : World :=
  let w0 := World.holding Tryd.prog os ⟨#[], #[], []⟩
  { w0 with heap := w0.heap.modify 0 fun
      | .cells _ t frozen => .cells #[.iface 131 (.agg #[.pointer (some ⟨2, 29, none⟩)])] t frozen
      | o => o }
theorem laidWorld_met (os : Os) (args : Array Value) : laidMetH Tryd.prog laidList ((laidWorld os).forCall (fun _ _ => 0) ⟨#[], args, []⟩).memory :=
  laidMetH_of_parts (laidMet_nil _ _) (by kernel_rfl)
end Go.Proofs.YtbbfjlnkhenbiaaDoor
namespace Go.Proofs.YtbbfjlnkhenbiaaDoor.blockBack
open Go.ChangeShapes Go.WideShapes Go.ChangeAt Go.RowKit Lk
open Go.ChangeMaps (open_string shut_string)
set_option linter.unusedVariables false
set_option linter.unusedSimpArgs false
set_option maxRecDepth 100000 in
theorem lifted (os : Os) (started : os.Started) (H : Type) (enc : TypeId × Value → H) :
    ReturnsInHanded {} Tryd.checked os 5 .any (fun w args => (Rows.blockBackSpec.pre enc Tryd.prog Tryd.f5 [] false w args ∧ laidMetH Tryd.prog laidList w) ∧ sizedMet enc Tryd.prog Tryd.f5 (OpenSpec.ofChange Rows.blockBackSpec) false w args)
      (Rows.blockBackSpec.post enc Tryd.prog Tryd.f5 false true false false) := by
  refine returnsInHanded_of_change_and (C := Tryd.checked) (X := fun w _ => laidMetH Tryd.prog laidList w) (fun _ _ _ hh h => h.of_heap hh) ownKnobNone started (by kernel_rfl) Tryd.func5
    (ChangeSpec.witness_at (enc := enc) (C := Tryd.checked) (os := os) (X := fun w _ => laidMetH Tryd.prog laidList w) false (laidWorld os) #[.int .u8 0, .slice none 0 0, .slice none 0 0, .agg #[.int .u8 0, .int .u8 0, .int .u8 0, .int .u8 0, .int .u8 0, .int .u8 0, .int .u8 0, .int .u8 0, .int .u8 0, .int .u8 0, .int .u8 0, .int .u8 0, .int .u8 0, .int .u8 0, .int .u8 0, .int .u8 0], .bool false] 8 rfl (by kernel_rfl) (by kernel_rfl) (by kernel_rfl) (by kernel_rfl) (by kernel_rfl) (laidWorld_met os _)) ?_
  intro W base args ds gs before hval0 hW _ _ hLd _
  have hval : ∀ (j : Nat) t v, Tryd.f5.params[j]? = some t → args[j]? = some v → Value.okWide Tryd.prog W .any base t v := hval0
  have hW' := hW
  obtain ⟨p, q, hA0, hV, rfl, hfz, hnd⟩ := hW
  have hA : DataW.TrodAll enc Tryd.prog W 0 (fun _ => true) true Tryd.f5.params.toList args.toList ds p := hA0
  have hEt : Et W := handle_of_laid hLd
  rw [Tryd.params5] at hA hval
  obtain ⟨v0, vs0, d0, ds0, p0, q0, hargs, rfl, rfl, h0, r0⟩ := trodAll_cons hA
  obtain ⟨v1, vs1, d1, ds1, p1, q1, rfl, rfl, rfl, h1, r1⟩ := trodAll_cons r0
  obtain ⟨v2, vs2, d2, ds2, p2, q2, rfl, rfl, rfl, h2, r2⟩ := trodAll_cons r1
  obtain ⟨v3, vs3, d3, ds3, p3, q3, rfl, rfl, rfl, h3, r3⟩ := trodAll_cons r2
  obtain ⟨v4, vs4, d4, ds4, p4, q4, rfl, rfl, rfl, h4, r4⟩ := trodAll_cons r3
  obtain ⟨rfl, rfl, rfl⟩ := trodAll_nil r4
  obtain rfl : args = #[v0, v1, v2, v3, v4] := by cases args; simp_all
  obtain ⟨rfl, rfl⟩ := trodVars_none hV
  have k0 := h0
  have lt0 : ∀ x ∈ p0, x.block < W.heap.size := by obtain ⟨m, hm⟩ := k0; exact DataW.trod_lt m _ _ _ hm
  obtain ⟨a0, rfl, rfl, rfl, w0⟩ := open_int Tryd.underlying5 (hval 0 5 v0 rfl rfl) h0
  obtain ⟨b0, rfl⟩ := Lk.open_u8 w0
  have k1 := h1
  have lt1 : ∀ x ∈ p1, x.block < W.heap.size := by obtain ⟨m, hm⟩ := k1; exact DataW.trod_lt m _ _ _ hm
  obtain ⟨a1, len1, cap1, rfl⟩ := okWide_slice Tryd.underlying22 (hval 1 22 v1 rfl rfl)
  obtain ⟨l1, hl1, s1⟩ := open_slice_u8 Tryd.underlying22 Tryd.underlying5 (by kernel_rfl) h1
  have k2 := h2
  have lt2 : ∀ x ∈ p2, x.block < W.heap.size := by obtain ⟨m, hm⟩ := k2; exact DataW.trod_lt m _ _ _ hm
  obtain ⟨a2, len2, cap2, rfl⟩ := okWide_slice Tryd.underlying22 (hval 2 22 v2 rfl rfl)
  obtain ⟨l2, hl2, s2⟩ := open_slice_u8 Tryd.underlying22 Tryd.underlying5 (by kernel_rfl) h2
  have k3 := h3
  have lt3 : ∀ x ∈ p3, x.block < W.heap.size := by obtain ⟨m, hm⟩ := k3; exact DataW.trod_lt m _ _ _ hm
  obtain ⟨l3, hl3, rfl⟩ := open_arr_u8 Tryd.underlying41 Tryd.underlying5 (by kernel_rfl) (by kernel_rfl) (by decide) (hval 3 41 v3 rfl rfl)
  have k4 := h4
  have lt4 : ∀ x ∈ p4, x.block < W.heap.size := by obtain ⟨m, hm⟩ := k4; exact DataW.trod_lt m _ _ _ hm
  obtain ⟨a4, rfl, rfl, rfl⟩ := open_bool Tryd.underlying4 (hval 4 4 v4 rfl rfl) h4
  clear hA0 hval0
  refine (BlockBack_any b0 _ l1 _ l2 l3 a4 W hEt s1 s2 hl3).mono fun e W' ⟨he, bel⟩ => ?_
  subst he
  exact ⟨_, rfl, _, _, _, [], _, [], hW', trodAll_mk1 (shut_bool Tryd.underlying4 _), (trodAll_cons_mk (Below.trod laidOutAll (by kernel_rfl) (of_decide_eq_true (by kernel_rfl)) k0 bel lt0) (trodAll_cons_mk (Below.trod laidOutAll (by kernel_rfl) (of_decide_eq_true (by kernel_rfl)) k1 bel lt1) (trodAll_cons_mk (Below.trod laidOutAll (by kernel_rfl) (of_decide_eq_true (by kernel_rfl)) k2 bel lt2) (trodAll_cons_mk (Below.trod laidOutAll (by kernel_rfl) (of_decide_eq_true (by kernel_rfl)) k3 bel lt3) (trodAll_cons_mk (Below.trod laidOutAll (by kernel_rfl) (of_decide_eq_true (by kernel_rfl)) k4 bel lt4) trodAll_mk0))))), rfl, bel.frame _, fun h => by cases h⟩
set_option maxHeartbeats 8000000 in
theorem closed : joinedFacts Tryd.checked.prog 5 Tryd.f5 Rows.blockBackSpec Rows.blockBackRow = true := by
  unfold joinedFacts
  simp only [Bool.and_eq_true]
  repeat' apply And.intro
  all_goals first | with_reducible exact fct_laid | with_reducible exact fct_maps | as_aux_lemma => kernel_rfl
theorem named_f : Tryd.prog.funcNamed "lockbox/lockboxlaw05.BlockBack" = some 5 := by kernel_rfl
theorem over : Rows.BlockBackSaid :=
  OpenClaim.holds_of_wide 5 Tryd.f5 rfl rfl rfl rfl rfl rfl rfl ⟨rfl, rfl, rfl, rfl, rfl⟩ rfl rfl rfl rfl rfl named_f Tryd.func5 closed
    (of_decide_eq_true (by kernel_rfl)) (by unfold Func.isWrapper; first | (rw [if_pos (by decide +kernel)]; kernel_rfl) | (rw [if_neg (by decide +kernel)]; exact ⟨rfl, rfl⟩))
    (fun os started H enc _ => lifted os started H enc)
theorem params_ok (j : Nat) (t : TypeId) (ht : Tryd.f5.params[j]? = some t) : Tryd.prog.wantsStandIn t = false := by
  rw [Tryd.params5] at ht
  have hm : t ∈ #[5, 22, 22, 41, 4] := Array.mem_of_getElem? ht
  simp only [List.mem_toArray, List.mem_cons, List.not_mem_nil, or_false] at hm
  rcases hm with rfl | rfl | rfl | rfl | rfl
  · show Tryd.prog.wantsStandIn 5 = false
    kernel_rfl
  · show Tryd.prog.wantsStandIn 22 = false
    kernel_rfl
  · show Tryd.prog.wantsStandIn 22 = false
    kernel_rfl
  · show Tryd.prog.wantsStandIn 41 = false
    kernel_rfl
  · show Tryd.prog.wantsStandIn 4 = false
    kernel_rfl
theorem wf_text : Rows.blockBackRow.wfByText (OpenSpec.ofChange Rows.blockBackSpec) = true := by kernel_rfl
theorem goes_no : false = Rows.blockBackRow.goesBy Tryd.pinned.checked.prog := by kernel_rfl
theorem card_holds : Rows.BlockBackCardSaid :=
  Claim7.holds_tied_plain_at .later [] [.handle] true (true, "ee270539b4f67e477ad7bbb92b61b104b35191debdef8cb44a0abfd087db6748") true
    over (fun _ h => by cases h) wf_text (fun _ h => by cases h) blockBack_row_tie rfl ⟨rfl, rfl⟩ fct_main rfl
    (fun f fn hf hfn => by
      obtain rfl : f = 5 := Option.some.inj (named_f.symm.trans hf) |>.symm
      obtain rfl : fn = Tryd.f5 := (Option.some.inj (Tryd.func5.symm.trans hfn)).symm
      exact ⟨fct_looks, fun j t ht => params_ok j t ht⟩)
    goes_no
#print axioms card_holds
end Go.Proofs.YtbbfjlnkhenbiaaDoor.blockBack
namespace Go.Proofs.YtbbfjlnkhenbiaaDoor
/-- The card, under a short name, for the claim. -/
theorem blockBack_holds : Rows.BlockBackCardSaid := blockBack.card_holds
end Go.Proofs.YtbbfjlnkhenbiaaDoor
