/- Row of BlockNews. -/
import Derived.Test.YtbbfjlnkhenbiaaDoorKP1
import Derived.Test.YtbbfjlnkhenbiaaDoorKB0
import Derived.WalkKit
import Derived.ProofKit
import Derived.OpenShut
import Derived.ShutString
import Derived.ChangeOld
import Derived.SizedLaws
import Derived.ChangeSlices
import Derived.Test.YtbbfjlnkhenbiaaDoorRows
import Derived.Test.YtbbfjlnkhenbiaaDoorKB6
import Derived.ChangeSame
import Derived.ChangeVars
import Derived.JoinedOf
import Derived.RowKit
import Derived.RowKitTokens
import Derived.LaidLaws
import Derived.LaidHandle
import Derived.Stop.Joined
import Derived.SevenTiedAt
import Derived.Test.YtbbfjlnkhenbiaaDoorCards
import Derived.Test.YtbbfjlnkhenbiaaDoorTie
set_option linter.unusedVariables false
set_option linter.unusedSimpArgs false
namespace Go.Proofs.YtbbfjlnkhenbiaaDoor
open Go Go.RowKit Lk
set_option maxHeartbeats 3200000 in
set_option maxRecDepth 100000 in
theorem BN_loF (kind : Int) (vk : Value) (key : List UInt8) (w : World) (hE : Et w) (hs : SlB w vk key) (hl : key.length ≤ 100) (hk : kind < 1) :
    Calls Tryd.prog 3 #[.int .i64 kind, vk, .bool false] w fun e w' => e = .returned (.bool true) ∧ Below w.heap.size w w' := by
  obtain ⟨N, hN⟩ : ∃ N, w.heap.size = N := ⟨_, rfl⟩
  have HN := Lib.hid hN
  have HE := Lib.hid (fun w' (h : Below N w w') => hE.under h hN)
  have HA := Lib.hid (awake05_any w hE)
  have HS := Lib.hid (fun w' (h : Below N w w') => hs.below (by rw [hN]; exact h))
  have i0 : ¬ (key.length : Int) > 100 := by omega
  have i1 : kind < 1 := hk
  have n1 : ¬ kind = 1 := by omega
  have n2 : ¬ kind = 2 := by omega
  have n3 : ¬ kind = 3 := by omega
  obtain ⟨A, c, rfl, _⟩ := hs
  rw [hN] at HA
  clear hN hE hl hk
  go_enter Tryd.func3, Tryd.ntmps3
  go_wp2_with (first
    | (go_at_call 10; refine HA.out.mono ?_; rintro e w1 ⟨rfl, hM1⟩)
    | (go_at_call 12; refine (New_out kind _ _ key w1 (HS.out w1 hM1) n1 n2 n3).mono ?_; rintro e wq ⟨rfl, hq⟩; have hq1 := hq.symm; subst hq1)
    | (go_at_call 13; refine (Code_any [] 1 _ w1 (HE.out w1 hM1) rfl).mono ?_; rintro e w4 ⟨rfl, hL4⟩; have hM4 := below_more hM1 hL4 (by have := hM1.size; have := HN.out; omega)))
  go_ret
  exact ⟨rfl, by rw [HN.out]; exact hM4⟩
set_option maxHeartbeats 3200000 in
set_option maxRecDepth 100000 in
theorem BN_hiF (kind : Int) (vk : Value) (key : List UInt8) (w : World) (hE : Et w) (hs : SlB w vk key) (hl : key.length ≤ 100) (hk : 3 < kind) :
    Calls Tryd.prog 3 #[.int .i64 kind, vk, .bool false] w fun e w' => e = .returned (.bool true) ∧ Below w.heap.size w w' := by
  obtain ⟨N, hN⟩ : ∃ N, w.heap.size = N := ⟨_, rfl⟩
  have HN := Lib.hid hN
  have HE := Lib.hid (fun w' (h : Below N w w') => hE.under h hN)
  have HA := Lib.hid (awake05_any w hE)
  have HS := Lib.hid (fun w' (h : Below N w w') => hs.below (by rw [hN]; exact h))
  have i0 : ¬ (key.length : Int) > 100 := by omega
  have i1 : ¬ kind < 1 := by omega
  have i2 : kind > 3 := hk
  have n1 : ¬ kind = 1 := by omega
  have n2 : ¬ kind = 2 := by omega
  have n3 : ¬ kind = 3 := by omega
  obtain ⟨A, c, rfl, _⟩ := hs
  rw [hN] at HA
  clear hN hE hl hk
  go_enter Tryd.func3, Tryd.ntmps3
  go_wp2_with (first
    | (go_at_call 10; refine HA.out.mono ?_; rintro e w1 ⟨rfl, hM1⟩)
    | (go_at_call 12; refine (New_out kind _ _ key w1 (HS.out w1 hM1) n1 n2 n3).mono ?_; rintro e wq ⟨rfl, hq⟩; have hq1 := hq.symm; subst hq1)
    | (go_at_call 13; refine (Code_any [] 1 _ w1 (HE.out w1 hM1) rfl).mono ?_; rintro e w4 ⟨rfl, hL4⟩; have hM4 := below_more hM1 hL4 (by have := hM1.size; have := HN.out; omega)))
  go_ret
  exact ⟨rfl, by rw [HN.out]; exact hM4⟩
set_option maxHeartbeats 3200000 in
set_option maxRecDepth 100000 in
theorem BN_1nF (vk : Value) (key : List UInt8) (w : World) (hE : Et w) (hs : SlB w vk key) (hl : key.length ≤ 100) (hf : pfits 1 key.length = false) :
    Calls Tryd.prog 3 #[.int .i64 (1 : Int), vk, .bool false] w fun e w' => e = .returned (.bool true) ∧ Below w.heap.size w w' := by
  obtain ⟨N, hN⟩ : ∃ N, w.heap.size = N := ⟨_, rfl⟩
  have HN := Lib.hid hN
  have HE := Lib.hid (fun w' (h : Below N w w') => hE.under h hN)
  have HA := Lib.hid (awake05_any w hE)
  have HS := Lib.hid (fun w' (h : Below N w w') => hs.below (by rw [hN]; exact h))
  have i0 : ¬ (key.length : Int) > 100 := by omega
  have HF := Lib.hid (fun w => Fits1 key.length w)
  rw [hf] at HF
  have Hf := Lib.hid hf
  obtain ⟨A, c, rfl, _⟩ := hs
  rw [hN] at HA
  clear hN hE hl hf
  go_enter Tryd.func3, Tryd.ntmps3
  go_wp2_with (first
    | (go_at_call 10; refine HA.out.mono ?_; rintro e w1 ⟨rfl, hM1⟩)
    | (go_at_call 12; refine (New_fit _ _ key w1 Hf.out (HS.out w1 hM1)).mono ?_; rintro e wq ⟨rfl, hq⟩; have hq1 := hq.symm; subst hq1)
    | (go_at_call 14; refine (HF.out w1).mono ?_; rintro e wq ⟨rfl, hq⟩; have hq1 := hq.symm; subst hq1)
    | (go_at_call 13; refine (Code_any [] 2 _ w1 (HE.out w1 hM1) rfl).mono ?_; rintro e w4 ⟨rfl, hL4⟩; have hM4 := below_more hM1 hL4 (by have := hM1.size; have := HN.out; omega)))
  go_ret
  exact ⟨rfl, by rw [HN.out]; exact hM4⟩
set_option maxHeartbeats 3200000 in
set_option maxRecDepth 100000 in
theorem BN_1yF (vk : Value) (key : List UInt8) (w : World) (hE : Et w) (hs : SlB w vk key) (hl : key.length ≤ 100) (hf : pfits 1 key.length = true) :
    Calls Tryd.prog 3 #[.int .i64 (1 : Int), vk, .bool false] w fun e w' => e = .returned (.bool true) ∧ Below w.heap.size w w' := by
  obtain ⟨N, hN⟩ : ∃ N, w.heap.size = N := ⟨_, rfl⟩
  have HN := Lib.hid hN
  have HE := Lib.hid (fun w' (h : Below N w w') => hE.under h hN)
  have HA := Lib.hid (awake05_any w hE)
  have HS := Lib.hid (fun w' (h : Below N w w') => hs.below (by rw [hN]; exact h))
  have i0 : ¬ (key.length : Int) > 100 := by omega
  have HF := Lib.hid (fun w => Fits1 key.length w)
  rw [hf] at HF
  have Hf := Lib.hid hf
  obtain ⟨A, c, rfl, _⟩ := hs
  rw [hN] at HA
  clear hN hE hl hf
  go_enter Tryd.func3, Tryd.ntmps3
  go_wp2_with (first
    | (go_at_call 10; refine HA.out.mono ?_; rintro e w1 ⟨rfl, hM1⟩)
    | (go_at_call 12; refine (New_bk1 _ _ key w1 Hf.out (HS.out w1 hM1)).mono ?_; rintro e w3 ⟨q, rfl, hC, hL3⟩; obtain ⟨gq, _, _, rfl, _⟩ := id hC; have hM4 := below_more hM1 hL3 (by have := hM1.size; have := HN.out; omega))
    | (go_at_call 14; refine (HF.out w3).mono ?_; rintro e wq ⟨rfl, hq⟩; have hq1 := hq.symm; subst hq1)
    | (go_at_call 15; refine (Size_any _ 1 _ key w3 hC).mono ?_; rintro e wq ⟨rfl, hq⟩; have hq1 := hq.symm; subst hq1))
  go_ret
  exact ⟨rfl, by rw [HN.out]; exact hM4⟩
set_option maxHeartbeats 3200000 in
set_option maxRecDepth 100000 in
theorem BN_2nF (vk : Value) (key : List UInt8) (w : World) (hE : Et w) (hs : SlB w vk key) (hl : key.length ≤ 100) (hf : pfits 2 key.length = false) :
    Calls Tryd.prog 3 #[.int .i64 (2 : Int), vk, .bool false] w fun e w' => e = .returned (.bool true) ∧ Below w.heap.size w w' := by
  obtain ⟨N, hN⟩ : ∃ N, w.heap.size = N := ⟨_, rfl⟩
  have HN := Lib.hid hN
  have HE := Lib.hid (fun w' (h : Below N w w') => hE.under h hN)
  have HA := Lib.hid (awake05_any w hE)
  have HS := Lib.hid (fun w' (h : Below N w w') => hs.below (by rw [hN]; exact h))
  have i0 : ¬ (key.length : Int) > 100 := by omega
  have HF := Lib.hid (fun w => Fits2 key.length w)
  rw [hf] at HF
  have Hf := Lib.hid hf
  obtain ⟨A, c, rfl, _⟩ := hs
  rw [hN] at HA
  clear hN hE hl hf
  go_enter Tryd.func3, Tryd.ntmps3
  go_wp2_with (first
    | (go_at_call 10; refine HA.out.mono ?_; rintro e w1 ⟨rfl, hM1⟩)
    | (go_at_call 12; refine (New_fit2 _ _ key w1 (HS.out w1 hM1) Hf.out).mono ?_; rintro e wq ⟨rfl, hq⟩; have hq1 := hq.symm; subst hq1)
    | (go_at_call 14; refine (HF.out w1).mono ?_; rintro e wq ⟨rfl, hq⟩; have hq1 := hq.symm; subst hq1)
    | (go_at_call 13; refine (Code_any [] 2 _ w1 (HE.out w1 hM1) rfl).mono ?_; rintro e w4 ⟨rfl, hL4⟩; have hM4 := below_more hM1 hL4 (by have := hM1.size; have := HN.out; omega)))
  go_ret
  exact ⟨rfl, by rw [HN.out]; exact hM4⟩
set_option maxHeartbeats 3200000 in
set_option maxRecDepth 100000 in
theorem BN_2yF (vk : Value) (key : List UInt8) (w : World) (hE : Et w) (hs : SlB w vk key) (hl : key.length ≤ 100) (hf : pfits 2 key.length = true) :
    Calls Tryd.prog 3 #[.int .i64 (2 : Int), vk, .bool false] w fun e w' => e = .returned (.bool true) ∧ Below w.heap.size w w' := by
  obtain ⟨N, hN⟩ : ∃ N, w.heap.size = N := ⟨_, rfl⟩
  have HN := Lib.hid hN
  have HE := Lib.hid (fun w' (h : Below N w w') => hE.under h hN)
  have HA := Lib.hid (awake05_any w hE)
  have HS := Lib.hid (fun w' (h : Below N w w') => hs.below (by rw [hN]; exact h))
  have i0 : ¬ (key.length : Int) > 100 := by omega
  have HF := Lib.hid (fun w => Fits2 key.length w)
  rw [hf] at HF
  have Hf := Lib.hid hf
  obtain ⟨A, c, rfl, _⟩ := hs
  rw [hN] at HA
  clear hN hE hl hf
  go_enter Tryd.func3, Tryd.ntmps3
  go_wp2_with (first
    | (go_at_call 10; refine HA.out.mono ?_; rintro e w1 ⟨rfl, hM1⟩)
    | (go_at_call 12; refine (New_bk2 _ _ key w1 Hf.out (HS.out w1 hM1)).mono ?_; rintro e w3 ⟨q, rfl, hC, hL3⟩; obtain ⟨gq, _, _, rfl, _⟩ := id hC; have hM4 := below_more hM1 hL3 (by have := hM1.size; have := HN.out; omega))
    | (go_at_call 14; refine (HF.out w3).mono ?_; rintro e wq ⟨rfl, hq⟩; have hq1 := hq.symm; subst hq1)
    | (go_at_call 15; refine (Size_any _ 2 _ key w3 hC).mono ?_; rintro e wq ⟨rfl, hq⟩; have hq1 := hq.symm; subst hq1))
  go_ret
  exact ⟨rfl, by rw [HN.out]; exact hM4⟩
set_option maxHeartbeats 3200000 in
set_option maxRecDepth 100000 in
theorem BN_loT (kind : Int) (vk : Value) (key : List UInt8) (w : World) (hE : Et w) (hs : SlB w vk key) (hl : key.length ≤ 100) (hk : kind < 1) :
    Calls Tryd.prog 3 #[.int .i64 kind, vk, .bool true] w fun e w' => e = .returned (.bool true) ∧ Below w.heap.size w w' := by
  obtain ⟨N, hN⟩ : ∃ N, w.heap.size = N := ⟨_, rfl⟩
  have HN := Lib.hid hN
  have HE := Lib.hid (fun w' (h : Below N w w') => hE.under h hN)
  have HA := Lib.hid (awake05_any w hE)
  have HS := Lib.hid (fun w' (h : Below N w w') => hs.below (by rw [hN]; exact h))
  have i0 : ¬ (key.length : Int) > 100 := by omega
  have i1 : kind < 1 := hk
  have n1 : ¬ kind = 1 := by omega
  have n2 : ¬ kind = 2 := by omega
  have n3 : ¬ kind = 3 := by omega
  obtain ⟨A, c, rfl, _⟩ := hs
  rw [hN] at HA
  clear hN hE hl hk
  go_enter Tryd.func3, Tryd.ntmps3
  go_wp2_with (first
    | (go_at_call 10; refine HA.out.mono ?_; rintro e w1 ⟨rfl, hM1⟩)
    | (go_at_call 11; refine (book05_any _ [] w1 (slB_nil w1) (by decide)).mono ?_; rintro e w2 ⟨gb, gt, rfl, hBk2, hL2⟩; have hM2 := below_more hM1 hL2 (by have := hM1.size; have := HN.out; omega))
    | (go_at_call 12; refine (New_out kind _ _ key w2 (HS.out w2 hM2) n1 n2 n3).mono ?_; rintro e wq ⟨rfl, hq⟩; have hq1 := hq.symm; subst hq1)
    | (go_at_call 13; refine (Code_any [] 1 _ w2 (HE.out w2 hM2) rfl).mono ?_; rintro e w4 ⟨rfl, hL4⟩; have hM4 := below_more hM2 hL4 (by have := hM2.size; have := HN.out; omega)))
  go_ret
  exact ⟨rfl, by rw [HN.out]; exact hM4⟩
set_option maxHeartbeats 3200000 in
set_option maxRecDepth 100000 in
theorem BN_hiT (kind : Int) (vk : Value) (key : List UInt8) (w : World) (hE : Et w) (hs : SlB w vk key) (hl : key.length ≤ 100) (hk : 3 < kind) :
    Calls Tryd.prog 3 #[.int .i64 kind, vk, .bool true] w fun e w' => e = .returned (.bool true) ∧ Below w.heap.size w w' := by
  obtain ⟨N, hN⟩ : ∃ N, w.heap.size = N := ⟨_, rfl⟩
  have HN := Lib.hid hN
  have HE := Lib.hid (fun w' (h : Below N w w') => hE.under h hN)
  have HA := Lib.hid (awake05_any w hE)
  have HS := Lib.hid (fun w' (h : Below N w w') => hs.below (by rw [hN]; exact h))
  have i0 : ¬ (key.length : Int) > 100 := by omega
  have i1 : ¬ kind < 1 := by omega
  have i2 : kind > 3 := hk
  have n1 : ¬ kind = 1 := by omega
  have n2 : ¬ kind = 2 := by omega
  have n3 : ¬ kind = 3 := by omega
  obtain ⟨A, c, rfl, _⟩ := hs
  rw [hN] at HA
  clear hN hE hl hk
  go_enter Tryd.func3, Tryd.ntmps3
  go_wp2_with (first
    | (go_at_call 10; refine HA.out.mono ?_; rintro e w1 ⟨rfl, hM1⟩)
    | (go_at_call 11; refine (book05_any _ [] w1 (slB_nil w1) (by decide)).mono ?_; rintro e w2 ⟨gb, gt, rfl, hBk2, hL2⟩; have hM2 := below_more hM1 hL2 (by have := hM1.size; have := HN.out; omega))
    | (go_at_call 12; refine (New_out kind _ _ key w2 (HS.out w2 hM2) n1 n2 n3).mono ?_; rintro e wq ⟨rfl, hq⟩; have hq1 := hq.symm; subst hq1)
    | (go_at_call 13; refine (Code_any [] 1 _ w2 (HE.out w2 hM2) rfl).mono ?_; rintro e w4 ⟨rfl, hL4⟩; have hM4 := below_more hM2 hL4 (by have := hM2.size; have := HN.out; omega)))
  go_ret
  exact ⟨rfl, by rw [HN.out]; exact hM4⟩
set_option maxHeartbeats 3200000 in
set_option maxRecDepth 100000 in
theorem BN_1nT (vk : Value) (key : List UInt8) (w : World) (hE : Et w) (hs : SlB w vk key) (hl : key.length ≤ 100) (hf : pfits 1 key.length = false) :
    Calls Tryd.prog 3 #[.int .i64 (1 : Int), vk, .bool true] w fun e w' => e = .returned (.bool true) ∧ Below w.heap.size w w' := by
  obtain ⟨N, hN⟩ : ∃ N, w.heap.size = N := ⟨_, rfl⟩
  have HN := Lib.hid hN
  have HE := Lib.hid (fun w' (h : Below N w w') => hE.under h hN)
  have HA := Lib.hid (awake05_any w hE)
  have HS := Lib.hid (fun w' (h : Below N w w') => hs.below (by rw [hN]; exact h))
  have i0 : ¬ (key.length : Int) > 100 := by omega
  have HF := Lib.hid (fun w => Fits1 key.length w)
  rw [hf] at HF
  have Hf := Lib.hid hf
  obtain ⟨A, c, rfl, _⟩ := hs
  rw [hN] at HA
  clear hN hE hl hf
  go_enter Tryd.func3, Tryd.ntmps3
  go_wp2_with (first
    | (go_at_call 10; refine HA.out.mono ?_; rintro e w1 ⟨rfl, hM1⟩)
    | (go_at_call 11; refine (book05_any _ [] w1 (slB_nil w1) (by decide)).mono ?_; rintro e w2 ⟨gb, gt, rfl, hBk2, hL2⟩; have hM2 := below_more hM1 hL2 (by have := hM1.size; have := HN.out; omega))
    | (go_at_call 12; refine (New_fit _ _ key w2 Hf.out (HS.out w2 hM2)).mono ?_; rintro e wq ⟨rfl, hq⟩; have hq1 := hq.symm; subst hq1)
    | (go_at_call 14; refine (HF.out w2).mono ?_; rintro e wq ⟨rfl, hq⟩; have hq1 := hq.symm; subst hq1)
    | (go_at_call 13; refine (Code_any [] 2 _ w2 (HE.out w2 hM2) rfl).mono ?_; rintro e w4 ⟨rfl, hL4⟩; have hM4 := below_more hM2 hL4 (by have := hM2.size; have := HN.out; omega)))
  go_ret
  exact ⟨rfl, by rw [HN.out]; exact hM4⟩
set_option maxHeartbeats 3200000 in
set_option maxRecDepth 100000 in
theorem BN_1yT (vk : Value) (key : List UInt8) (w : World) (hE : Et w) (hs : SlB w vk key) (hl : key.length ≤ 100) (hf : pfits 1 key.length = true) :
    Calls Tryd.prog 3 #[.int .i64 (1 : Int), vk, .bool true] w fun e w' => e = .returned (.bool true) ∧ Below w.heap.size w w' := by
  obtain ⟨N, hN⟩ : ∃ N, w.heap.size = N := ⟨_, rfl⟩
  have HN := Lib.hid hN
  have HE := Lib.hid (fun w' (h : Below N w w') => hE.under h hN)
  have HA := Lib.hid (awake05_any w hE)
  have HS := Lib.hid (fun w' (h : Below N w w') => hs.below (by rw [hN]; exact h))
  have i0 : ¬ (key.length : Int) > 100 := by omega
  have HF := Lib.hid (fun w => Fits1 key.length w)
  rw [hf] at HF
  have Hf := Lib.hid hf
  obtain ⟨A, c, rfl, _⟩ := hs
  rw [hN] at HA
  clear hN hE hl hf
  go_enter Tryd.func3, Tryd.ntmps3
  go_wp2_with (first
    | (go_at_call 10; refine HA.out.mono ?_; rintro e w1 ⟨rfl, hM1⟩)
    | (go_at_call 11; refine (book05_any _ [] w1 (slB_nil w1) (by decide)).mono ?_; rintro e w2 ⟨gb, gt, rfl, hBk2, hL2⟩; have hM2 := below_more hM1 hL2 (by have := hM1.size; have := HN.out; omega))
    | (go_at_call 12; refine (New_bk1 _ _ key w2 Hf.out (HS.out w2 hM2)).mono ?_; rintro e w3 ⟨q, rfl, hC, hL3⟩; obtain ⟨gq, _, _, rfl, _⟩ := id hC; have hM4 := below_more hM2 hL3 (by have := hM2.size; have := HN.out; omega))
    | (go_at_call 14; refine (HF.out w3).mono ?_; rintro e wq ⟨rfl, hq⟩; have hq1 := hq.symm; subst hq1)
    | (go_at_call 15; refine (Size_any _ 1 _ key w3 hC).mono ?_; rintro e wq ⟨rfl, hq⟩; have hq1 := hq.symm; subst hq1))
  go_ret
  exact ⟨rfl, by rw [HN.out]; exact hM4⟩
set_option maxHeartbeats 3200000 in
set_option maxRecDepth 100000 in
theorem BN_2nT (vk : Value) (key : List UInt8) (w : World) (hE : Et w) (hs : SlB w vk key) (hl : key.length ≤ 100) (hf : pfits 2 key.length = false) :
    Calls Tryd.prog 3 #[.int .i64 (2 : Int), vk, .bool true] w fun e w' => e = .returned (.bool true) ∧ Below w.heap.size w w' := by
  obtain ⟨N, hN⟩ : ∃ N, w.heap.size = N := ⟨_, rfl⟩
  have HN := Lib.hid hN
  have HE := Lib.hid (fun w' (h : Below N w w') => hE.under h hN)
  have HA := Lib.hid (awake05_any w hE)
  have HS := Lib.hid (fun w' (h : Below N w w') => hs.below (by rw [hN]; exact h))
  have i0 : ¬ (key.length : Int) > 100 := by omega
  have HF := Lib.hid (fun w => Fits2 key.length w)
  rw [hf] at HF
  have Hf := Lib.hid hf
  obtain ⟨A, c, rfl, _⟩ := hs
  rw [hN] at HA
  clear hN hE hl hf
  go_enter Tryd.func3, Tryd.ntmps3
  go_wp2_with (first
    | (go_at_call 10; refine HA.out.mono ?_; rintro e w1 ⟨rfl, hM1⟩)
    | (go_at_call 11; refine (book05_any _ [] w1 (slB_nil w1) (by decide)).mono ?_; rintro e w2 ⟨gb, gt, rfl, hBk2, hL2⟩; have hM2 := below_more hM1 hL2 (by have := hM1.size; have := HN.out; omega))
    | (go_at_call 12; refine (New_fit2 _ _ key w2 (HS.out w2 hM2) Hf.out).mono ?_; rintro e wq ⟨rfl, hq⟩; have hq1 := hq.symm; subst hq1)
    | (go_at_call 14; refine (HF.out w2).mono ?_; rintro e wq ⟨rfl, hq⟩; have hq1 := hq.symm; subst hq1)
    | (go_at_call 13; refine (Code_any [] 2 _ w2 (HE.out w2 hM2) rfl).mono ?_; rintro e w4 ⟨rfl, hL4⟩; have hM4 := below_more hM2 hL4 (by have := hM2.size; have := HN.out; omega)))
  go_ret
  exact ⟨rfl, by rw [HN.out]; exact hM4⟩
set_option maxHeartbeats 3200000 in
set_option maxRecDepth 100000 in
theorem BN_2yT (vk : Value) (key : List UInt8) (w : World) (hE : Et w) (hs : SlB w vk key) (hl : key.length ≤ 100) (hf : pfits 2 key.length = true) :
    Calls Tryd.prog 3 #[.int .i64 (2 : Int), vk, .bool true] w fun e w' => e = .returned (.bool true) ∧ Below w.heap.size w w' := by
  obtain ⟨N, hN⟩ : ∃ N, w.heap.size = N := ⟨_, rfl⟩
  have HN := Lib.hid hN
  have HE := Lib.hid (fun w' (h : Below N w w') => hE.under h hN)
  have HA := Lib.hid (awake05_any w hE)
  have HS := Lib.hid (fun w' (h : Below N w w') => hs.below (by rw [hN]; exact h))
  have i0 : ¬ (key.length : Int) > 100 := by omega
  have HF := Lib.hid (fun w => Fits2 key.length w)
  rw [hf] at HF
  have Hf := Lib.hid hf
  obtain ⟨A, c, rfl, _⟩ := hs
  rw [hN] at HA
  clear hN hE hl hf
  go_enter Tryd.func3, Tryd.ntmps3
  go_wp2_with (first
    | (go_at_call 10; refine HA.out.mono ?_; rintro e w1 ⟨rfl, hM1⟩)
    | (go_at_call 11; refine (book05_any _ [] w1 (slB_nil w1) (by decide)).mono ?_; rintro e w2 ⟨gb, gt, rfl, hBk2, hL2⟩; have hM2 := below_more hM1 hL2 (by have := hM1.size; have := HN.out; omega))
    | (go_at_call 12; refine (New_bk2 _ _ key w2 Hf.out (HS.out w2 hM2)).mono ?_; rintro e w3 ⟨q, rfl, hC, hL3⟩; obtain ⟨gq, _, _, rfl, _⟩ := id hC; have hM4 := below_more hM2 hL3 (by have := hM2.size; have := HN.out; omega))
    | (go_at_call 14; refine (HF.out w3).mono ?_; rintro e wq ⟨rfl, hq⟩; have hq1 := hq.symm; subst hq1)
    | (go_at_call 15; refine (Size_any _ 2 _ key w3 hC).mono ?_; rintro e wq ⟨rfl, hq⟩; have hq1 := hq.symm; subst hq1))
  go_ret
  exact ⟨rfl, by rw [HN.out]; exact hM4⟩
set_option maxHeartbeats 3200000 in
set_option maxRecDepth 100000 in
theorem BN_3F (vk : Value) (key : List UInt8) (w : World) (hE : Et w) (hs : SlB w vk key) (hl : key.length ≤ 100) :
    Calls Tryd.prog 3 #[.int .i64 (3 : Int), vk, .bool false] w fun e w' => e = .returned (.bool true) ∧ Below w.heap.size w w' := by
  obtain ⟨N, hN⟩ : ∃ N, w.heap.size = N := ⟨_, rfl⟩
  have HN := Lib.hid hN
  have HE := Lib.hid (fun w' (h : Below N w w') => hE.under h hN)
  have HA := Lib.hid (awake05_any w hE)
  have HS := Lib.hid (fun w' (h : Below N w w') => hs.below (by rw [hN]; exact h))
  have i0 : ¬ (key.length : Int) > 100 := by omega
  obtain ⟨A, c, rfl, _⟩ := hs
  rw [hN] at HA
  clear hN hE hl
  go_enter Tryd.func3, Tryd.ntmps3
  go_wp2_with (first
    | (go_at_call 10; refine HA.out.mono ?_; rintro e w1 ⟨rfl, hM1⟩)
    | (go_at_call 12; refine (New_no3 _ key w1 (HS.out w1 hM1)).mono ?_; rintro e wq ⟨rfl, hq⟩; have hq1 := hq.symm; subst hq1)
    | (go_at_call 13; refine (Code_any [] 1 _ w1 (HE.out w1 hM1) rfl).mono ?_; rintro e w4 ⟨rfl, hL4⟩; have hM4 := below_more hM1 hL4 (by have := hM1.size; have := HN.out; omega)))
  go_ret
  exact ⟨rfl, by rw [HN.out]; exact hM4⟩
set_option maxHeartbeats 3200000 in
set_option maxRecDepth 100000 in
theorem BN_3n (vk : Value) (key : List UInt8) (w : World) (hE : Et w) (hs : SlB w vk key) (hl : key.length ≤ 100) (hf : key.length < 1 ∨ 32 < key.length) :
    Calls Tryd.prog 3 #[.int .i64 (3 : Int), vk, .bool true] w fun e w' => e = .returned (.bool true) ∧ Below w.heap.size w w' := by
  obtain ⟨N, hN⟩ : ∃ N, w.heap.size = N := ⟨_, rfl⟩
  have HN := Lib.hid hN
  have HE := Lib.hid (fun w' (h : Below N w w') => hE.under h hN)
  have HA := Lib.hid (awake05_any w hE)
  have HS := Lib.hid (fun w' (h : Below N w w') => hs.below (by rw [hN]; exact h))
  have i0 : ¬ (key.length : Int) > 100 := by omega
  have HF := Lib.hid (fun w => Fits3_no key.length w hf)
  have Hf := Lib.hid hf
  obtain ⟨A, c, rfl, _⟩ := hs
  rw [hN] at HA
  clear hN hE hl hf
  go_enter Tryd.func3, Tryd.ntmps3
  go_wp2_with (first
    | (go_at_call 10; refine HA.out.mono ?_; rintro e w1 ⟨rfl, hM1⟩)
    | (go_at_call 11; refine (book05_any _ [] w1 (slB_nil w1) (by decide)).mono ?_; rintro e w2 ⟨gb, gt, rfl, hBk2, hL2⟩; have hM2 := below_more hM1 hL2 (by have := hM1.size; have := HN.out; omega))
    | (go_at_call 12; refine (New_fit3 _ gb key w2 (HS.out w2 hM2) Hf.out).mono ?_; rintro e wq ⟨rfl, hq⟩; have hq1 := hq.symm; subst hq1)
    | (go_at_call 14; refine (HF.out w2).mono ?_; rintro e wq ⟨rfl, hq⟩; have hq1 := hq.symm; subst hq1)
    | (go_at_call 13; refine (Code_any [] 2 _ w2 (HE.out w2 hM2) rfl).mono ?_; rintro e w4 ⟨rfl, hL4⟩; have hM4 := below_more hM2 hL4 (by have := hM2.size; have := HN.out; omega)))
  go_ret
  exact ⟨rfl, by rw [HN.out]; exact hM4⟩
set_option maxHeartbeats 3200000 in
set_option maxRecDepth 100000 in
theorem BN_3y (vk : Value) (key : List UInt8) (w : World) (hE : Et w) (hs : SlB w vk key) (hl : key.length ≤ 100) (h1 : 1 ≤ key.length) (h2 : key.length ≤ 32) :
    Calls Tryd.prog 3 #[.int .i64 (3 : Int), vk, .bool true] w fun e w' => e = .returned (.bool true) ∧ Below w.heap.size w w' := by
  obtain ⟨N, hN⟩ : ∃ N, w.heap.size = N := ⟨_, rfl⟩
  have HN := Lib.hid hN
  have HE := Lib.hid (fun w' (h : Below N w w') => hE.under h hN)
  have HA := Lib.hid (awake05_any w hE)
  have HS := Lib.hid (fun w' (h : Below N w w') => hs.below (by rw [hN]; exact h))
  have i0 : ¬ (key.length : Int) > 100 := by omega
  have HF := Lib.hid (fun w => Fits3_yes key.length w h1 h2)
  have H1 := Lib.hid h1
  have H2 := Lib.hid h2
  obtain ⟨A, c, rfl, _⟩ := hs
  rw [hN] at HA
  clear hN hE hl h1 h2
  go_enter Tryd.func3, Tryd.ntmps3
  go_wp2_with (first
    | (go_at_call 10; refine HA.out.mono ?_; rintro e w1 ⟨rfl, hM1⟩)
    | (go_at_call 11; refine (book05_any _ [] w1 (slB_nil w1) (by decide)).mono ?_; rintro e w2 ⟨gb, gt, rfl, hBk2, hL2⟩; have hM2 := below_more hM1 hL2 (by have := hM1.size; have := HN.out; omega))
    | (go_at_call 12; refine (New3_any _ gb key w2 H1.out H2.out (HS.out w2 hM2)).mono ?_; rintro e w3 ⟨q, rfl, hC, hL3⟩; obtain ⟨gq, _, rfl, _⟩ := id hC; have hM4 := below_more hM2 hL3 (by have := hM2.size; have := HN.out; omega))
    | (go_at_call 14; refine (HF.out w3).mono ?_; rintro e wq ⟨rfl, hq⟩; have hq1 := hq.symm; subst hq1)
    | (go_at_call 15; refine (SizeO_any _ key gb w3 hC).mono ?_; rintro e wq ⟨rfl, hq⟩; have hq1 := hq.symm; subst hq1))
  go_ret
  exact ⟨rfl, by rw [HN.out]; exact hM4⟩
set_option maxHeartbeats 3200000 in
set_option maxRecDepth 100000 in
theorem BN_long (kind : Int) (vk : Value) (key : List UInt8) (bk : Bool) (w : World) (hE : Et w) (hs : SlB w vk key) (hl : ¬ key.length ≤ 100) :
    Calls Tryd.prog 3 #[.int .i64 kind, vk, .bool bk] w fun e w' => e = .returned (.bool true) ∧ Below w.heap.size w w' := by
  have HA := Lib.hid (fun (w1 : World) (h : Below w.heap.size w w1) => awake05_any w1 (hE.below h))
  have HR := Lib.hid (Below.refl w.heap.size w)
  have i0 : (key.length : Int) > 100 := by omega
  obtain ⟨A, c, rfl, _⟩ := hs
  clear hl hE
  go_enter Tryd.func3, Tryd.ntmps3
  go_wp2_with (first
    | ((with_reducible show Calls _ _ _ w _); go_at_call 10; refine (HA.out w HR.out).mono ?_; rintro e w1 ⟨rfl, hM1⟩)
    | ((with_reducible show Calls _ _ _ w1 _); go_at_call 10; refine (HA.out w1 hM1).mono ?_; rintro e w2 ⟨rfl, hL2⟩))
  go_ret
  exact ⟨rfl, below_more hM1 hL2 hM1.size⟩
theorem BlockNews_any (kind : Int) (vk : Value) (key : List UInt8) (bk : Bool) (w : World) (hE : Et w) (hs : SlB w vk key) :
    Calls Tryd.prog 3 #[.int .i64 kind, vk, .bool bk] w fun e w' => e = .returned (.bool true) ∧ Below w.heap.size w w' := by
  by_cases hl : key.length ≤ 100
  · by_cases k0 : kind < 1
    · cases bk
      · exact BN_loF kind vk key w hE hs hl k0
      · exact BN_loT kind vk key w hE hs hl k0
    by_cases k4 : 3 < kind
    · cases bk
      · exact BN_hiF kind vk key w hE hs hl k4
      · exact BN_hiT kind vk key w hE hs hl k4
    rcases (show kind = 1 ∨ kind = 2 ∨ kind = 3 by omega) with rfl | rfl | rfl
    · cases hf : pfits 1 key.length <;> cases bk
      · exact BN_1nF vk key w hE hs hl hf
      · exact BN_1nT vk key w hE hs hl hf
      · exact BN_1yF vk key w hE hs hl hf
      · exact BN_1yT vk key w hE hs hl hf
    · cases hf : pfits 2 key.length <;> cases bk
      · exact BN_2nF vk key w hE hs hl hf
      · exact BN_2nT vk key w hE hs hl hf
      · exact BN_2yF vk key w hE hs hl hf
      · exact BN_2yT vk key w hE hs hl hf
    · cases bk
      · exact BN_3F vk key w hE hs hl
      · by_cases h1 : 1 ≤ key.length
        · by_cases h2 : key.length ≤ 32
          · exact BN_3y vk key w hE hs hl h1 h2
          · exact BN_3n vk key w hE hs hl (by omega)
        · exact BN_3n vk key w hE hs hl (by omega)
  · exact BN_long kind vk key bk w hE hs hl
end Go.Proofs.YtbbfjlnkhenbiaaDoor
set_option linter.unusedVariables false
set_option linter.unusedSimpArgs false
namespace Lk
open Go Go.RowKit
/-- a slice of whole numbers as it is read -/
def IsRow (k : IntKind) (w : World) (a : Option Addr) (len cap : Nat) (zs : List Int) : Prop :=
  (a = none ∧ len = 0 ∧ cap = 0 ∧ zs = []) ∨
  ∃ x, a = some x ∧ len ≤ cap ∧ cap ≤ maxLen ∧ zs.length = cap ∧ (∀ i, i < zs.length → w.cell? (x.add i) = some (.int k (zs.getD i 0))) ∧ ∀ n ∈ zs, (Lit.int k n).wf = true
theorem u8_of_wf {n : Int} (h : (Lit.int .u8 n).wf = true) : n = bv (UInt8.ofNat n.toNat) := by
  obtain ⟨a, rfl⟩ := open_u8 h
  unfold bv
  simp
theorem slB_of_row {w : World} {a : Option Addr} {len cap : Nat} {zs : List Int} (h : IsRow .u8 w a len cap zs) : ∃ l : List UInt8, l.length = len ∧ SlB w (.slice a len cap) l := by
  rcases h with ⟨rfl, rfl, rfl, rfl⟩ | ⟨x, rfl, h1, h2, h3, h4, h5⟩
  · exact ⟨[], rfl, none, 0, rfl, fun _ => rfl, Nat.le_refl _, Nat.zero_le _, fun h => by omega⟩
  · have hl : ((zs.take len).map fun z => UInt8.ofNat z.toNat).length = len := by simp; omega
    refine ⟨(zs.take len).map fun z => UInt8.ofNat z.toNat, hl, some x, cap, by rw [hl], fun h => (by cases h), by rw [hl]; exact h1, h2, fun hc => ?_⟩
    have hx : x.spot = none := by
      have := h4 0 (by omega)
      have e : x.add 0 = x := by simp [Addr.add]
      rw [e] at this
      unfold World.cell? at this
      split at this
      · split at this
        · cases this
        · rename_i hs; simpa using hs
      · cases this
    obtain ⟨g, o, s⟩ := x
    cases hx
    refine ⟨g, o, rfl, fun k hk => ?_⟩
    rw [hl] at hk
    have hc := h4 k (by omega)
    have ea : (⟨g, o, none⟩ : Addr).add k = ⟨g, o + k, none⟩ := by unfold Addr.add; split <;> simp_all
    rw [ea] at hc
    rw [hc]
    have hm : zs.getD k 0 ∈ zs := by
      have : k < zs.length := by omega
      simp [this]
    have := u8_of_wf (h5 _ hm)
    have e : g8 ((zs.take len).map fun z => UInt8.ofNat z.toNat) k = UInt8.ofNat (zs.getD k 0).toNat := by
      unfold g8
      have : k < zs.length := by omega
      simp [List.getElem?_take, hk, this]
    rw [e, ← this]
section
variable {P : Program} {H : Type} {enc : TypeId × Value → H}
theorem open_slice_u8 {t e : TypeId} {W : World} {a : Option Addr} {len cap : Nat} {d : DataW H} {ps : List MemPlace} (ht : P.underlying t = some (.slice e)) (he : P.underlying e = some (.int .u8)) (hc : P.cellsOf e = 1)
    (h : DataW.Trod enc P W 0 (fun _ => true) true t (.slice a len cap) d ps) : ∃ l : List UInt8, l.length = len ∧ SlB W (.slice a len cap) l := by
  obtain ⟨zs, hz⟩ : ∃ zs, IsRow .u8 W a len cap zs := by
    obtain ⟨fuel, hf⟩ := h
    rcases Go.ChangeShapes.open_ints ht he hc hf with ⟨hcs, _⟩ | ⟨x, l, c, zs, hcs, _, hl, hm, hz, _, hcell, hwz⟩
    · simp [Value.cells] at hcs
      obtain ⟨rfl, rfl, rfl⟩ := hcs
      exact ⟨[], .inl ⟨rfl, rfl, rfl, rfl⟩⟩
    · simp [Value.cells] at hcs
      obtain ⟨rfl, rfl, rfl⟩ := hcs
      exact ⟨zs, .inr ⟨_, rfl, hl, hm, by simpa using hz, hcell, hwz⟩⟩
  exact slB_of_row hz
/-- an array of bytes -/
theorem open_arr_u8 {t e n : Nat} {W : World} {r : Reach} {base : Nat} {v : Value} (ht : P.underlying t = some (.array n e)) (he : P.underlying e = some (.int .u8)) (hc : P.cellsOf t = n) (hct : P.cellTypes P.depth t = some (List.replicate n e)) (hn : 0 < n)
    (h : Value.okWide P W r base t v) : ∃ l : List UInt8, l.length = n ∧ v = .agg (Bs l) := by
  simp only [Value.okWide, ht] at h
  obtain ⟨cs, rfl, hsz, ts, hts, _, hcell⟩ := h
  rw [hct] at hts
  cases hts
  rw [hc] at hsz
  refine ⟨cs.toList.map fun v => match v with | .int _ z => UInt8.ofNat z.toNat | _ => 0, by simp [hsz], ?_⟩
  congr 1
  apply Array.ext
  · simp [Bs]
  · intro i h1 h2
    obtain ⟨u, hu, hok⟩ := hcell i cs[i] (by simp [h1])
    have hue : u = e := by
      rw [List.getElem?_replicate] at hu
      split at hu
      · cases hu; rfl
      · cases hu
    subst hue
    simp only [Cell.okWide, he] at hok
    simp only [Bs, List.map_map, List.getElem_toArray, List.getElem_map, Function.comp_apply, Array.getElem_toList]
    cases hv : cs[i] with
    | int k z =>
      rw [hv] at hok
      simp only [Cell.ok, he] at hok
      obtain ⟨rfl, hw⟩ := hok
      have hw' : (Lit.int .u8 z).wf = true := by
        unfold Lit.wf
        rw [Bool.and_eq_true]
        exact ⟨decide_eq_true hw.1, decide_eq_true hw.2⟩
      simp only [← u8_of_wf hw']
    | _ => rw [hv] at hok; simp [Cell.ok, he] at hok
end
end Lk
set_option linter.unusedVariables false
namespace Go.Proofs.YtbbfjlnkhenbiaaDoor
open Go.ChangeShapes Go.WideShapes Go.RowKit
theorem ownKnobNone : ownKnob Tryd.prog.godebug = none := by kernel_rfl
theorem laidOutAll : laidOutB Tryd.prog = true := by kernel_rfl
theorem fct_laid : laidOutB Tryd.checked.prog = true := by kernel_rfl
theorem fct_maps : mapsRowed Tryd.checked.prog = true := by kernel_rfl
theorem fct_main : Tryd.pinned.checked.prog.mainIs = some (true, "ee270539b4f67e477ad7bbb92b61b104b35191debdef8cb44a0abfd087db6748".toList) := by kernel_rfl
theorem fct_looks : true = Tryd.pinned.checked.prog.looks [] := by kernel_rfl
def laidList : List (String × DataW Unit) := [("errors.errorType", Rows.laid_errors_errorType)]
theorem et_g : Tryd.prog.globalNamed "errors.errorType" = some 0 := by kernel_rfl
theorem et_rt : (Tryd.prog.cutTypes.find? (·.1 == "internal/reflectlite.rtype")).map (·.2) = some 131 := by kernel_rfl
theorem et_row : ((List.range 216).filter fun t => Tryd.prog.rowNamed t [101, 114, 114, 111, 114]) = [29] := by kernel_rfl
theorem et_size : Tryd.prog.types.size = 216 := by kernel_rfl
theorem handle_of_laid {W : World} (h : laidMetH Tryd.prog laidList W) : Et W := by
  have h' : laidMet Tryd.prog [] W ∧ handlesMet Tryd.prog laidList W := h
  obtain ⟨name, u, ty, e1, e2, e3, e4, e5⟩ := h'.2 _ (List.mem_singleton.2 rfl)
  have en : name = [101, 114, 114, 111, 114] := (Option.some.inj e1).symm
  subst en
  obtain rfl := Option.some.inj (et_rt.symm.trans e2)
  have hm : ty ∈ (List.range 216).filter fun t => Tryd.prog.rowNamed t [101, 114, 114, 111, 114] := List.mem_filter.2 ⟨List.mem_range.2 (by rw [← et_size]; exact e3), e4⟩
  rw [et_row] at hm
  obtain rfl := List.mem_singleton.1 hm
  have hh : typeHandle Tryd.prog 29 = .pointer (some ⟨2, 29, none⟩) := by kernel_rfl
  rw [hh] at e5
  have := World.var?_cell et_g e5 0
  unfold Et hnd
  simpa using this
noncomputable def laidWorld (os : Os) : World :=
  let w0 := World.holding Tryd.prog os ⟨#[], #[], []⟩
  { w0 with heap := w0.heap.modify 0 fun
      | .cells _ t frozen => .cells #[.iface 131 (.agg #[.pointer (some ⟨2, 29, none⟩)])] t frozen
      | o => o }
theorem laidWorld_met (os : Os) (args : Array Value) : laidMetH Tryd.prog laidList ((laidWorld os).forCall (fun _ _ => 0) ⟨#[], args, []⟩).memory :=
  laidMetH_of_parts (laidMet_nil _ _) (by kernel_rfl)
end Go.Proofs.YtbbfjlnkhenbiaaDoor
namespace Go.Proofs.YtbbfjlnkhenbiaaDoor.blockNews
open Go.ChangeShapes Go.WideShapes Go.ChangeAt Go.RowKit Lk
open Go.ChangeMaps (open_string shut_string)
set_option linter.unusedVariables false
set_option linter.unusedSimpArgs false
set_option maxRecDepth 100000 in
theorem lifted (os : Os) (started : os.Started) (H : Type) (enc : TypeId × Value → H) :
    ReturnsInHanded {} Tryd.checked os 3 .any (fun w args => (Rows.blockNewsSpec.pre enc Tryd.prog Tryd.f3 [] false w args ∧ laidMetH Tryd.prog laidList w) ∧ sizedMet enc Tryd.prog Tryd.f3 (OpenSpec.ofChange Rows.blockNewsSpec) false w args)
      (Rows.blockNewsSpec.post enc Tryd.prog Tryd.f3 false true false false) := by
  refine returnsInHanded_of_change_and (C := Tryd.checked) (X := fun w _ => laidMetH Tryd.prog laidList w) (fun _ _ _ hh h => h.of_heap hh) ownKnobNone started (by kernel_rfl) Tryd.func3
    (ChangeSpec.witness_at (enc := enc) (C := Tryd.checked) (os := os) (X := fun w _ => laidMetH Tryd.prog laidList w) false (laidWorld os) #[.int .i64 0, .slice none 0 0, .bool false] 8 rfl (by kernel_rfl) (by kernel_rfl) (by kernel_rfl) (by kernel_rfl) (by kernel_rfl) (laidWorld_met os _)) ?_
  intro W base args ds gs before hval0 hW _ _ hLd _
  have hval : ∀ (j : Nat) t v, Tryd.f3.params[j]? = some t → args[j]? = some v → Value.okWide Tryd.prog W .any base t v := hval0
  have hW' := hW
  obtain ⟨p, q, hA0, hV, rfl, hfz, hnd⟩ := hW
  have hA : DataW.TrodAll enc Tryd.prog W 0 (fun _ => true) true Tryd.f3.params.toList args.toList ds p := hA0
  have hEt : Et W := handle_of_laid hLd
  rw [Tryd.params3] at hA hval
  obtain ⟨v0, vs0, d0, ds0, p0, q0, hargs, rfl, rfl, h0, r0⟩ := trodAll_cons hA
  obtain ⟨v1, vs1, d1, ds1, p1, q1, rfl, rfl, rfl, h1, r1⟩ := trodAll_cons r0
  obtain ⟨v2, vs2, d2, ds2, p2, q2, rfl, rfl, rfl, h2, r2⟩ := trodAll_cons r1
  obtain ⟨rfl, rfl, rfl⟩ := trodAll_nil r2
  obtain rfl : args = #[v0, v1, v2] := by cases args; simp_all
  obtain ⟨rfl, rfl⟩ := trodVars_none hV
  have k0 := h0
  have lt0 : ∀ x ∈ p0, x.block < W.heap.size := by obtain ⟨m, hm⟩ := k0; exact DataW.trod_lt m _ _ _ hm
  obtain ⟨a0, rfl, rfl, rfl, w0⟩ := open_int Tryd.underlying3 (hval 0 3 v0 rfl rfl) h0
  have k1 := h1
  have lt1 : ∀ x ∈ p1, x.block < W.heap.size := by obtain ⟨m, hm⟩ := k1; exact DataW.trod_lt m _ _ _ hm
  obtain ⟨a1, len1, cap1, rfl⟩ := okWide_slice Tryd.underlying22 (hval 1 22 v1 rfl rfl)
  obtain ⟨l1, hl1, s1⟩ := open_slice_u8 Tryd.underlying22 Tryd.underlying5 (by kernel_rfl) h1
  have k2 := h2
  have lt2 : ∀ x ∈ p2, x.block < W.heap.size := by obtain ⟨m, hm⟩ := k2; exact DataW.trod_lt m _ _ _ hm
  obtain ⟨a2, rfl, rfl, rfl⟩ := open_bool Tryd.underlying4 (hval 2 4 v2 rfl rfl) h2
  clear hA0 hval0
  refine (BlockNews_any a0 _ l1 a2 W hEt s1).mono fun e W' ⟨he, bel⟩ => ?_
  subst he
  exact ⟨_, rfl, _, _, _, [], _, [], hW', trodAll_mk1 (shut_bool Tryd.underlying4 _), (trodAll_cons_mk (Below.trod laidOutAll (by kernel_rfl) (of_decide_eq_true (by kernel_rfl)) k0 bel lt0) (trodAll_cons_mk (Below.trod laidOutAll (by kernel_rfl) (of_decide_eq_true (by kernel_rfl)) k1 bel lt1) (trodAll_cons_mk (Below.trod laidOutAll (by kernel_rfl) (of_decide_eq_true (by kernel_rfl)) k2 bel lt2) trodAll_mk0))), rfl, bel.frame _, fun h => by cases h⟩
set_option maxHeartbeats 8000000 in
theorem closed : joinedFacts Tryd.checked.prog 3 Tryd.f3 Rows.blockNewsSpec Rows.blockNewsRow = true := by
  unfold joinedFacts
  simp only [Bool.and_eq_true]
  repeat' apply And.intro
  all_goals first | with_reducible exact fct_laid | with_reducible exact fct_maps | as_aux_lemma => kernel_rfl
theorem named_f : Tryd.prog.funcNamed "lockbox/lockboxlaw05.BlockNews" = some 3 := by kernel_rfl
theorem over : Rows.BlockNewsSaid :=
  OpenClaim.holds_of_wide 3 Tryd.f3 rfl rfl rfl rfl rfl rfl rfl ⟨rfl, rfl, rfl, rfl, rfl⟩ rfl rfl rfl rfl rfl named_f Tryd.func3 closed
    (of_decide_eq_true (by kernel_rfl)) (by unfold Func.isWrapper; first | (rw [if_pos (by decide +kernel)]; kernel_rfl) | (rw [if_neg (by decide +kernel)]; exact ⟨rfl, rfl⟩))
    (fun os started H enc _ => lifted os started H enc)
theorem params_ok (j : Nat) (t : TypeId) (ht : Tryd.f3.params[j]? = some t) : Tryd.prog.wantsStandIn t = false := by
  rw [Tryd.params3] at ht
  have hm : t ∈ #[3, 22, 4] := Array.mem_of_getElem? ht
  simp only [List.mem_toArray, List.mem_cons, List.not_mem_nil, or_false] at hm
  rcases hm with rfl | rfl | rfl
  · show Tryd.prog.wantsStandIn 3 = false
    kernel_rfl
  · show Tryd.prog.wantsStandIn 22 = false
    kernel_rfl
  · show Tryd.prog.wantsStandIn 4 = false
    kernel_rfl
theorem wf_text : Rows.blockNewsRow.wfByText (OpenSpec.ofChange Rows.blockNewsSpec) = true := by kernel_rfl
theorem goes_no : false = Rows.blockNewsRow.goesBy Tryd.pinned.checked.prog := by kernel_rfl
theorem card_holds : Rows.BlockNewsCardSaid :=
  Claim7.holds_tied_plain_at .later [] [.handle] true (true, "ee270539b4f67e477ad7bbb92b61b104b35191debdef8cb44a0abfd087db6748") true
    over (fun _ h => by cases h) wf_text (fun _ h => by cases h) blockNews_row_tie rfl ⟨rfl, rfl⟩ fct_main rfl
    (fun f fn hf hfn => by
      obtain rfl : f = 3 := Option.some.inj (named_f.symm.trans hf) |>.symm
      obtain rfl : fn = Tryd.f3 := (Option.some.inj (Tryd.func3.symm.trans hfn)).symm
      exact ⟨fct_looks, fun j t ht => params_ok j t ht⟩)
    goes_no
#print axioms card_holds
end Go.Proofs.YtbbfjlnkhenbiaaDoor.blockNews
namespace Go.Proofs.YtbbfjlnkhenbiaaDoor
/-- The card, under a short name, for the claim. -/
theorem blockNews_holds : Rows.BlockNewsCardSaid := blockNews.card_holds
end Go.Proofs.YtbbfjlnkhenbiaaDoor
