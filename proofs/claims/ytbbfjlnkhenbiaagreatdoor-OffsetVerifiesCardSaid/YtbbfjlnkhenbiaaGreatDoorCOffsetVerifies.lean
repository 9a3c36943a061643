/- OffsetVerifies, of whatever key, data, table and PIN (and offset): what is answered is what the reference answers, by text, number and place. No condition. -/
import Derived.Test.YtbbfjlnkhenbiaaGreatDoorKO1
import Derived.Test.YtbbfjlnkhenbiaaGreatDoorKO2
import Derived.Test.YtbbfjlnkhenbiaaGreatDoorKB0
import Derived.WalkKit
import Derived.ProofKit
import Derived.OpenShut
import Derived.ShutString
import Derived.ChangeOld
import Derived.SizedLaws
import Derived.ChangeSlices
import Derived.Test.YtbbfjlnkhenbiaaGreatDoorRows
import Derived.Test.YtbbfjlnkhenbiaaGreatDoorKB6
import Derived.ChangeSame
import Derived.ChangeVars
import Derived.JoinedOf
import Derived.RowKit
import Derived.RowKitTokens
import Derived.LaidLaws
import Derived.LaidHandle
import Derived.Stop.Joined
import Derived.SevenTiedAt
import Derived.Test.YtbbfjlnkhenbiaaGreatDoorCards
import Derived.Test.YtbbfjlnkhenbiaaGreatDoorTie
set_option linter.unusedVariables false
set_option linter.unusedSimpArgs false
namespace Go.Proofs.YtbbfjlnkhenbiaaGreatDoor
open Go Go.RowKit Lk
theorem fewo4 (vk : Value) (key : List UInt8) (a b c d : ByteArray) (w : World) (hk : SlB w vk key) :
    Calls Tryz.prog 34 #[vk, .slice (some ⟨w.heap.size, 0, none⟩) 4 4] (w.alloc (.cells #[.string a, .string b, .string c, .string d] 9)) fun e w' => e = .returned (.bool ([a, b, c, d].all (fun s => decide (s.size ≤ 100)) && decide (key.length ≤ 100))) ∧ w' = w.alloc (.cells #[.string a, .string b, .string c, .string d] 9) :=
  few_any vk key w.heap.size 4 [a, b, c, d] _ (hk.alloc _) rfl (by decide) (slV_lit w [.string a, .string b, .string c, .string d] 4 _ rfl (by decide))
set_option maxHeartbeats 1600000 in
set_option maxRecDepth 100000 in
theorem OV_few (vk : Value) (key : List UInt8) (data table off p : ByteArray) (w : World) (hk : SlB w vk key) (hf : ([data, table, p, off].all (fun s => decide (s.size ≤ 100)) && decide (key.length ≤ 100)) = false) :
    Calls Tryz.prog 8 #[vk, .string data, .string table, .string off, .string p] w fun e w' => e = .returned (.bool true) ∧ Below w.heap.size w w' := by
  have HA := Lib.hid (fun w => awake15_any w)
  have HF := Lib.hid (fun w1 (h : SlB w1 vk key) => fewo4 vk key data table p off w1 h)
  rw [hf] at HF
  have HK := Lib.hid hk
  obtain ⟨A, c, rfl, _⟩ := hk
  clear hf
  go_enter Tryz.func8, Tryz.ntmps8
  go_wp2_with (first
    | (go_at_call 33; (with_reducible show Calls _ _ _ w _); refine (HA.out w).mono ?_; rintro e w1 ⟨rfl, hL1⟩)
    | (go_at_call 34; refine (HF.out w1 (HK.out.below hL1)).mono ?_; rintro e w2 ⟨rfl, rfl⟩; have hL2 : Below w.heap.size w (w1.alloc (.cells #[.string data, .string table, .string p, .string off] 9)) := below_alloc hL1 hL1.size _)
    | (go_at_call 33; refine (HA.out _).mono ?_; rintro e w3 ⟨rfl, hL3⟩))
  go_ret
  exact ⟨rfl, below_more hL2 hL3 hL2.size⟩
set_option maxHeartbeats 3200000 in
set_option maxRecDepth 100000 in
theorem OV_why (vk : Value) (key : List UInt8) (data table off p : ByteArray) (w : World) (hE : Et w) (hk : SlB w vk key) (hf : ([data, table, p, off].all (fun s => decide (s.size ≤ 100)) && decide (key.length ≤ 100)) = true) (hn : (pof key data table p).2.1 ≠ 0) :
    Calls Tryz.prog 8 #[vk, .string data, .string table, .string off, .string p] w fun e w' => e = .returned (.bool true) ∧ Below w.heap.size w w' := by
  have hps : p.size ≤ 100 ∧ off.size ≤ 100 := by
    simp only [List.all_cons, List.all_nil, Bool.and_true, Bool.and_eq_true, decide_eq_true_eq] at hf
    omega
  have HA := Lib.hid (fun w => awake15_any w)
  have HF := Lib.hid (fun w1 (h : SlB w1 vk key) => fewo4 vk key data table p off w1 h)
  rw [hf] at HF
  have HK := Lib.hid hk
  have HE := Lib.hid hE
  have HVe := Lib.hid (fun w1 (h : SlB w1 vk key) => VerifyO_any vk key data table off p w1 h (by omega) (by omega))
  have HRo := Lib.hid (fun w1 (h : SlB w1 vk key) => rOf_any vk key data table p w1 h (by omega))
  have HFi := Lib.hid (fun w => First_10 off w (by omega))
  unfold pver at HVe
  rw [if_pos hn] at HVe
  obtain ⟨pn, epn⟩ : ∃ pn, pof key data table p = pn := ⟨_, rfl⟩
  rw [epn] at HVe HRo hn
  obtain ⟨S, why, pl⟩ := pn
  simp only [r3] at HVe HRo hn
  have i1 : (why != 0) = true := by simp; exact hn
  clear epn hn
  clear hf hE hps
  obtain ⟨A, c, rfl, _⟩ := hk
  go_enter Tryz.func8, Tryz.ntmps8
  go_wp2_with (first
    | (go_at_call 33; (with_reducible show Calls _ _ _ w _); refine (HA.out w).mono ?_; rintro e w1 ⟨rfl, hL1⟩)
    | (go_at_call 34; refine (HF.out w1 (HK.out.below hL1)).mono ?_; rintro e w2 ⟨rfl, hw2⟩; have hM2 : Below w.heap.size w w2 := (by rw [hw2]; exact below_alloc hL1 hL1.size _); clear hw2)
    | (go_at_call 41; refine (HVe.out w2 (HK.out.below hM2)).mono ?_; rintro e w3 ⟨v3, rfl, hE3, hL3⟩; have hM3 := below_more hM2 hL3 hM2.size; have HE3 := Lib.hid hE3)
    | (go_at_call 40; refine (HRo.out w3 (HK.out.below hM3)).mono ?_; rintro e w4 ⟨rfl, hL4⟩; have hM4 := below_more hM3 hL4 hM3.size; have HE4 := Lib.hid (HE3.out.below hL4))
    | (go_at_call 15; (with_reducible show Calls _ _ _ w4 _); refine (Code_of (HE.out.below hM4) HE4.out).mono ?_; rintro e w5 ⟨rfl, hL5⟩; have hM5 := below_more hM4 hL5 hM4.size; have HE5 := Lib.hid (HE4.out.below hL5))
    | (go_at_call 17; (with_reducible show Calls _ _ _ w5 _); refine (At_of (HE.out.below hM5) HE5.out).mono ?_; rintro e w6 ⟨rfl, hL6⟩; have hM6 := below_more hM5 hL6 hM5.size))
  go_ret
  exact ⟨rfl, hM6⟩
set_option maxHeartbeats 3200000 in
set_option maxRecDepth 100000 in
theorem OV_len (vk : Value) (key : List UInt8) (data table off p : ByteArray) (w : World) (hE : Et w) (hk : SlB w vk key) (hf : ([data, table, p, off].all (fun s => decide (s.size ≤ 100)) && decide (key.length ≤ 100)) = true) (hn : (pof key data table p).2.1 = 0) (hs : off.size ≠ p.size) :
    Calls Tryz.prog 8 #[vk, .string data, .string table, .string off, .string p] w fun e w' => e = .returned (.bool true) ∧ Below w.heap.size w w' := by
  have hps : p.size ≤ 100 ∧ off.size ≤ 100 := by
    simp only [List.all_cons, List.all_nil, Bool.and_true, Bool.and_eq_true, decide_eq_true_eq] at hf
    omega
  have HA := Lib.hid (fun w => awake15_any w)
  have HF := Lib.hid (fun w1 (h : SlB w1 vk key) => fewo4 vk key data table p off w1 h)
  rw [hf] at HF
  have HK := Lib.hid hk
  have HE := Lib.hid hE
  have HVe := Lib.hid (fun w1 (h : SlB w1 vk key) => VerifyO_any vk key data table off p w1 h (by omega) (by omega))
  have HRo := Lib.hid (fun w1 (h : SlB w1 vk key) => rOf_any vk key data table p w1 h (by omega))
  have HFi := Lib.hid (fun w => First_10 off w (by omega))
  unfold pver at HVe
  rw [if_neg (by simp [hn])] at HVe
  obtain ⟨pn, epn⟩ : ∃ pn, pof key data table p = pn := ⟨_, rfl⟩
  rw [epn] at HVe HRo hn
  obtain ⟨S, why, pl⟩ := pn
  simp only [r3] at HVe HRo hn
  subst hn
  rw [if_pos hs] at HVe
  have i1 : ((off.size : Int) != (p.size : Int)) = true := by simp; omega
  clear epn hs
  clear hf hE hps
  obtain ⟨A, c, rfl, _⟩ := hk
  go_enter Tryz.func8, Tryz.ntmps8
  go_wp2_with (first
    | (go_at_call 33; (with_reducible show Calls _ _ _ w _); refine (HA.out w).mono ?_; rintro e w1 ⟨rfl, hL1⟩)
    | (go_at_call 34; refine (HF.out w1 (HK.out.below hL1)).mono ?_; rintro e w2 ⟨rfl, hw2⟩; have hM2 : Below w.heap.size w w2 := (by rw [hw2]; exact below_alloc hL1 hL1.size _); clear hw2)
    | (go_at_call 41; refine (HVe.out w2 (HK.out.below hM2)).mono ?_; rintro e w3 ⟨v3, rfl, hE3, hL3⟩; have hM3 := below_more hM2 hL3 hM2.size; have HE3 := Lib.hid hE3)
    | (go_at_call 40; refine (HRo.out w3 (HK.out.below hM3)).mono ?_; rintro e w4 ⟨rfl, hL4⟩; have hM4 := below_more hM3 hL4 hM3.size; have HE4 := Lib.hid (HE3.out.below hL4))
    | (go_at_call 15; (with_reducible show Calls _ _ _ w4 _); refine (Code_of (HE.out.below hM4) HE4.out).mono ?_; rintro e w5 ⟨rfl, hL5⟩; have hM5 := below_more hM4 hL5 hM4.size; have HE5 := Lib.hid (HE4.out.below hL5)))
  go_ret
  exact ⟨rfl, hM5⟩
set_option maxHeartbeats 3200000 in
set_option maxRecDepth 100000 in
theorem OV_dig (vk : Value) (key : List UInt8) (data table off p : ByteArray) (w : World) (hE : Et w) (hk : SlB w vk key) (hf : ([data, table, p, off].all (fun s => decide (s.size ≤ 100)) && decide (key.length ≤ 100)) = true) (hn : (pof key data table p).2.1 = 0) (hs : off.size = p.size) (k : Nat) (hk10 : pf 10 (sb off) = (k : Int)) :
    Calls Tryz.prog 8 #[vk, .string data, .string table, .string off, .string p] w fun e w' => e = .returned (.bool true) ∧ Below w.heap.size w w' := by
  have hps : p.size ≤ 100 ∧ off.size ≤ 100 := by
    simp only [List.all_cons, List.all_nil, Bool.and_true, Bool.and_eq_true, decide_eq_true_eq] at hf
    omega
  have HA := Lib.hid (fun w => awake15_any w)
  have HF := Lib.hid (fun w1 (h : SlB w1 vk key) => fewo4 vk key data table p off w1 h)
  rw [hf] at HF
  have HK := Lib.hid hk
  have HE := Lib.hid hE
  have HVe := Lib.hid (fun w1 (h : SlB w1 vk key) => VerifyO_any vk key data table off p w1 h (by omega) (by omega))
  have HRo := Lib.hid (fun w1 (h : SlB w1 vk key) => rOf_any vk key data table p w1 h (by omega))
  have HFi := Lib.hid (fun w => First_10 off w (by omega))
  unfold pver at HVe
  rw [if_neg (by simp [hn])] at HVe
  obtain ⟨pn, epn⟩ : ∃ pn, pof key data table p = pn := ⟨_, rfl⟩
  rw [epn] at HVe HRo hn
  obtain ⟨S, why, pl⟩ := pn
  simp only [r3] at HVe HRo hn
  subst hn
  rw [if_neg (by simp [hs]), hk10, if_pos (by omega)] at HVe
  rw [hk10] at HFi
  have i1 : ((off.size : Int) != (p.size : Int)) = false := by simp; omega
  have i2 : (k : Int) ≥ 0 := by omega
  clear epn hs hk10
  clear hf hE hps
  obtain ⟨A, c, rfl, _⟩ := hk
  go_enter Tryz.func8, Tryz.ntmps8
  go_wp2_with (first
    | (go_at_call 33; (with_reducible show Calls _ _ _ w _); refine (HA.out w).mono ?_; rintro e w1 ⟨rfl, hL1⟩)
    | (go_at_call 34; refine (HF.out w1 (HK.out.below hL1)).mono ?_; rintro e w2 ⟨rfl, hw2⟩; have hM2 : Below w.heap.size w w2 := (by rw [hw2]; exact below_alloc hL1 hL1.size _); clear hw2)
    | (go_at_call 41; refine (HVe.out w2 (HK.out.below hM2)).mono ?_; rintro e w3 ⟨v3, rfl, hE3, hL3⟩; have hM3 := below_more hM2 hL3 hM2.size; have HE3 := Lib.hid hE3)
    | (go_at_call 40; refine (HRo.out w3 (HK.out.below hM3)).mono ?_; rintro e w4 ⟨rfl, hL4⟩; have hM4 := below_more hM3 hL4 hM3.size; have HE4 := Lib.hid (HE3.out.below hL4))
    | (go_at_call 42; refine (HFi.out _).mono ?_; rintro e wq ⟨rfl, hq⟩; have hq1 := hq.symm; subst hq1)
    | (go_at_call 15; (with_reducible show Calls _ _ _ w4 _); refine (Code_of (HE.out.below hM4) HE4.out).mono ?_; rintro e w5 ⟨rfl, hL5⟩; have hM5 := below_more hM4 hL5 hM4.size; have HE5 := Lib.hid (HE4.out.below hL5))
    | (go_at_call 17; (with_reducible show Calls _ _ _ w5 _); refine (At_of (HE.out.below hM5) HE5.out).mono ?_; rintro e w6 ⟨rfl, hL6⟩; have hM6 := below_more hM5 hL6 hM5.size))
  go_ret
  exact ⟨rfl, hM6⟩
set_option maxHeartbeats 3200000 in
set_option maxRecDepth 100000 in
theorem OV_yes (vk : Value) (key : List UInt8) (data table off p : ByteArray) (w : World) (hE : Et w) (hk : SlB w vk key) (hf : ([data, table, p, off].all (fun s => decide (s.size ≤ 100)) && decide (key.length ≤ 100)) = true) (hn : (pof key data table p).2.1 = 0) (hs : off.size = p.size) (hk10 : pf 10 (sb off) = -1) (he : sb off = sb (pof key data table p).1) :
    Calls Tryz.prog 8 #[vk, .string data, .string table, .string off, .string p] w fun e w' => e = .returned (.bool true) ∧ Below w.heap.size w w' := by
  have hps : p.size ≤ 100 ∧ off.size ≤ 100 := by
    simp only [List.all_cons, List.all_nil, Bool.and_true, Bool.and_eq_true, decide_eq_true_eq] at hf
    omega
  have HA := Lib.hid (fun w => awake15_any w)
  have HF := Lib.hid (fun w1 (h : SlB w1 vk key) => fewo4 vk key data table p off w1 h)
  rw [hf] at HF
  have HK := Lib.hid hk
  have HE := Lib.hid hE
  have HVe := Lib.hid (fun w1 (h : SlB w1 vk key) => VerifyO_any vk key data table off p w1 h (by omega) (by omega))
  have HRo := Lib.hid (fun w1 (h : SlB w1 vk key) => rOf_any vk key data table p w1 h (by omega))
  have HFi := Lib.hid (fun w => First_10 off w (by omega))
  unfold pver at HVe
  rw [if_neg (by simp [hn])] at HVe
  obtain ⟨pn, epn⟩ : ∃ pn, pof key data table p = pn := ⟨_, rfl⟩
  rw [epn] at HVe HRo hn he
  obtain ⟨S, why, pl⟩ := pn
  simp only [r3] at HVe HRo hn he
  subst hn
  rw [if_neg (by simp [hs]), hk10, if_neg (by omega), if_pos he] at HVe
  rw [hk10] at HFi
  obtain rfl := sb_inj he
  have i1 : ((off.size : Int) != (p.size : Int)) = false := by simp; omega
  clear epn hs hk10 he
  clear hf hE hps
  obtain ⟨A, c, rfl, _⟩ := hk
  go_enter Tryz.func8, Tryz.ntmps8
  go_wp2_with (first
    | (go_at_call 33; (with_reducible show Calls _ _ _ w _); refine (HA.out w).mono ?_; rintro e w1 ⟨rfl, hL1⟩)
    | (go_at_call 34; refine (HF.out w1 (HK.out.below hL1)).mono ?_; rintro e w2 ⟨rfl, hw2⟩; have hM2 : Below w.heap.size w w2 := (by rw [hw2]; exact below_alloc hL1 hL1.size _); clear hw2)
    | (go_at_call 41; refine (HVe.out w2 (HK.out.below hM2)).mono ?_; rintro e w3 ⟨v3, rfl, hE3, hL3⟩; have hM3 := below_more hM2 hL3 hM2.size; have HE3 := Lib.hid hE3)
    | (go_at_call 40; refine (HRo.out w3 (HK.out.below hM3)).mono ?_; rintro e w4 ⟨rfl, hL4⟩; have hM4 := below_more hM3 hL4 hM3.size; have HE4 := Lib.hid (HE3.out.below hL4))
    | (go_at_call 42; refine (HFi.out _).mono ?_; rintro e wq ⟨rfl, hq⟩; have hq1 := hq.symm; subst hq1; obtain rfl := HE4.out.nil))
  go_ret
  exact ⟨rfl, hM4⟩
set_option maxHeartbeats 3200000 in
set_option maxRecDepth 100000 in
theorem OV_no (vk : Value) (key : List UInt8) (data table off p : ByteArray) (w : World) (hE : Et w) (hk : SlB w vk key) (hf : ([data, table, p, off].all (fun s => decide (s.size ≤ 100)) && decide (key.length ≤ 100)) = true) (hn : (pof key data table p).2.1 = 0) (hs : off.size = p.size) (hk10 : pf 10 (sb off) = -1) (he : ¬ sb off = sb (pof key data table p).1) :
    Calls Tryz.prog 8 #[vk, .string data, .string table, .string off, .string p] w fun e w' => e = .returned (.bool true) ∧ Below w.heap.size w w' := by
  have hps : p.size ≤ 100 ∧ off.size ≤ 100 := by
    simp only [List.all_cons, List.all_nil, Bool.and_true, Bool.and_eq_true, decide_eq_true_eq] at hf
    omega
  have HA := Lib.hid (fun w => awake15_any w)
  have HF := Lib.hid (fun w1 (h : SlB w1 vk key) => fewo4 vk key data table p off w1 h)
  rw [hf] at HF
  have HK := Lib.hid hk
  have HE := Lib.hid hE
  have HVe := Lib.hid (fun w1 (h : SlB w1 vk key) => VerifyO_any vk key data table off p w1 h (by omega) (by omega))
  have HRo := Lib.hid (fun w1 (h : SlB w1 vk key) => rOf_any vk key data table p w1 h (by omega))
  have HFi := Lib.hid (fun w => First_10 off w (by omega))
  unfold pver at HVe
  rw [if_neg (by simp [hn])] at HVe
  obtain ⟨pn, epn⟩ : ∃ pn, pof key data table p = pn := ⟨_, rfl⟩
  rw [epn] at HVe HRo hn he
  obtain ⟨S, why, pl⟩ := pn
  simp only [r3] at HVe HRo hn he
  subst hn
  rw [if_neg (by simp [hs]), hk10, if_neg (by omega), if_neg he] at HVe
  rw [hk10] at HFi
  have i1 : ((off.size : Int) != (p.size : Int)) = false := by simp; omega
  have i3 : (off.toList == S.toList) = false := by
    rw [ByteArray.toList_eq, ByteArray.toList_eq]
    simpa [sb] using he
  clear epn hs hk10 he
  clear hf hE hps
  obtain ⟨A, c, rfl, _⟩ := hk
  go_enter Tryz.func8, Tryz.ntmps8
  go_wp2_with (first
    | (go_at_call 33; (with_reducible show Calls _ _ _ w _); refine (HA.out w).mono ?_; rintro e w1 ⟨rfl, hL1⟩)
    | (go_at_call 34; refine (HF.out w1 (HK.out.below hL1)).mono ?_; rintro e w2 ⟨rfl, hw2⟩; have hM2 : Below w.heap.size w w2 := (by rw [hw2]; exact below_alloc hL1 hL1.size _); clear hw2)
    | (go_at_call 41; refine (HVe.out w2 (HK.out.below hM2)).mono ?_; rintro e w3 ⟨v3, rfl, hE3, hL3⟩; have hM3 := below_more hM2 hL3 hM2.size; have HE3 := Lib.hid hE3)
    | (go_at_call 40; refine (HRo.out w3 (HK.out.below hM3)).mono ?_; rintro e w4 ⟨rfl, hL4⟩; have hM4 := below_more hM3 hL4 hM3.size; have HE4 := Lib.hid (HE3.out.below hL4))
    | (go_at_call 42; refine (HFi.out _).mono ?_; rintro e wq ⟨rfl, hq⟩; have hq1 := hq.symm; subst hq1)
    | (go_at_call 15; (with_reducible show Calls _ _ _ w4 _); refine (Code_of (HE.out.below hM4) HE4.out).mono ?_; rintro e w5 ⟨rfl, hL5⟩; have hM5 := below_more hM4 hL5 hM4.size; have HE5 := Lib.hid (HE4.out.below hL5)))
  go_ret
  exact ⟨rfl, hM5⟩
theorem OffsetVerifies_any (vk : Value) (key : List UInt8) (data table off p : ByteArray) (w : World) (hE : Et w) (hk : SlB w vk key) :
    Calls Tryz.prog 8 #[vk, .string data, .string table, .string off, .string p] w fun e w' => e = .returned (.bool true) ∧ Below w.heap.size w w' := by
  by_cases hf : ([data, table, p, off].all (fun s => decide (s.size ≤ 100)) && decide (key.length ≤ 100)) = true
  · by_cases hn : (pof key data table p).2.1 = 0
    · by_cases hs : off.size = p.size
      · rcases pf_cases 10 (sb off) with ⟨h3, _⟩ | ⟨k, h3, hk3, _⟩
        · by_cases he : sb off = sb (pof key data table p).1
          · exact OV_yes vk key data table off p w hE hk hf hn hs h3 he
          · exact OV_no vk key data table off p w hE hk hf hn hs h3 he
        · exact OV_dig vk key data table off p w hE hk hf hn hs k h3
      · exact OV_len vk key data table off p w hE hk hf hn hs
    · exact OV_why vk key data table off p w hE hk hf hn
  · exact OV_few vk key data table off p w hk (by simpa using hf)
end Go.Proofs.YtbbfjlnkhenbiaaGreatDoor
set_option linter.unusedVariables false
set_option linter.unusedSimpArgs false
namespace Lk
open Go Go.RowKit
/-- a slice of whole numbers as it is read -/
def IsRow (k : IntKind) (w : World) (a : Option Addr) (len cap : Nat) (zs : List Int) : Prop :=
  (a = none ∧ len = 0 ∧ cap = 0 ∧ zs = []) ∨
  ∃ x, a = some x ∧ len ≤ cap ∧ cap ≤ maxLen ∧ zs.length = cap ∧ (∀ i, i < zs.length → w.cell? (x.add i) = some (.int k (zs.getD i 0))) ∧ ∀ n ∈ zs, (Lit.int k n).wf = true
theorem u8_of_wf {n : Int} (h : (Lit.int .u8 n).wf = true) : n = bv (UInt8.ofNat n.toNat) := by
  obtain ⟨a, rfl⟩ := open_u8 h
  unfold bv
  simp
theorem slB_of_row {w : World} {a : Option Addr} {len cap : Nat} {zs : List Int} (h : IsRow .u8 w a len cap zs) : ∃ l : List UInt8, l.length = len ∧ SlB w (.slice a len cap) l := by
  rcases h with ⟨rfl, rfl, rfl, rfl⟩ | ⟨x, rfl, h1, h2, h3, h4, h5⟩
  · exact ⟨[], rfl, none, 0, rfl, fun _ => rfl, Nat.le_refl _, Nat.zero_le _, fun h => by omega⟩
  · have hl : ((zs.take len).map fun z => UInt8.ofNat z.toNat).length = len := by simp; omega
    refine ⟨(zs.take len).map fun z => UInt8.ofNat z.toNat, hl, some x, cap, by rw [hl], fun h => (by cases h), by rw [hl]; exact h1, h2, fun hc => ?_⟩
    have hx : x.spot = none := by
      have := h4 0 (by omega)
      have e : x.add 0 = x := by simp [Addr.add]
      rw [e] at this
      unfold World.cell? at this
      split at this
      · split at this
        · cases this
        · rename_i hs; simpa using hs
      · cases this
    obtain ⟨g, o, s⟩ := x
    cases hx
    refine ⟨g, o, rfl, fun k hk => ?_⟩
    rw [hl] at hk
    have hc := h4 k (by omega)
    have ea : (⟨g, o, none⟩ : Addr).add k = ⟨g, o + k, none⟩ := by unfold Addr.add; split <;> simp_all
    rw [ea] at hc
    rw [hc]
    have hm : zs.getD k 0 ∈ zs := by
      have : k < zs.length := by omega
      simp [this]
    have := u8_of_wf (h5 _ hm)
    have e : g8 ((zs.take len).map fun z => UInt8.ofNat z.toNat) k = UInt8.ofNat (zs.getD k 0).toNat := by
      unfold g8
      have : k < zs.length := by omega
      simp [List.getElem?_take, hk, this]
    rw [e, ← this]
section
variable {P : Program} {H : Type} {enc : TypeId × Value → H}
theorem open_slice_u8 {t e : TypeId} {W : World} {a : Option Addr} {len cap : Nat} {d : DataW H} {ps : List MemPlace} (ht : P.underlying t = some (.slice e)) (he : P.underlying e = some (.int .u8)) (hc : P.cellsOf e = 1)
    (h : DataW.Trod enc P W 0 (fun _ => true) true t (.slice a len cap) d ps) : ∃ l : List UInt8, l.length = len ∧ SlB W (.slice a len cap) l := by
  obtain ⟨zs, hz⟩ : ∃ zs, IsRow .u8 W a len cap zs := by
    obtain ⟨fuel, hf⟩ := h
    rcases Go.ChangeShapes.open_ints ht he hc hf with ⟨hcs, _⟩ | ⟨x, l, c, zs, hcs, _, hl, hm, hz, _, hcell, hwz⟩
    · simp [Value.cells] at hcs
      obtain ⟨rfl, rfl, rfl⟩ := hcs
      exact ⟨[], .inl ⟨rfl, rfl, rfl, rfl⟩⟩
    · simp [Value.cells] at hcs
      obtain ⟨rfl, rfl, rfl⟩ := hcs
      exact ⟨zs, .inr ⟨_, rfl, hl, hm, by simpa using hz, hcell, hwz⟩⟩
  exact slB_of_row hz
/-- an array of bytes -/
theorem open_arr_u8 {t e n : Nat} {W : World} {r : Reach} {base : Nat} {v : Value} (ht : P.underlying t = some (.array n e)) (he : P.underlying e = some (.int .u8)) (hc : P.cellsOf t = n) (hct : P.cellTypes P.depth t = some (List.replicate n e)) (hn : 0 < n)
    (h : Value.okWide P W r base t v) : ∃ l : List UInt8, l.length = n ∧ v = .agg (Bs l) := by
  simp only [Value.okWide, ht] at h
  obtain ⟨cs, rfl, hsz, ts, hts, _, hcell⟩ := h
  rw [hct] at hts
  cases hts
  rw [hc] at hsz
  refine ⟨cs.toList.map fun v => match v with | .int _ z => UInt8.ofNat z.toNat | _ => 0, by simp [hsz], ?_⟩
  congr 1
  apply Array.ext
  · simp [Bs]
  · intro i h1 h2
    obtain ⟨u, hu, hok⟩ := hcell i cs[i] (by simp [h1])
    have hue : u = e := by
      rw [List.getElem?_replicate] at hu
      split at hu
      · cases hu; rfl
      · cases hu
    subst hue
    simp only [Cell.okWide, he] at hok
    simp only [Bs, List.map_map, List.getElem_toArray, List.getElem_map, Function.comp_apply, Array.getElem_toList]
    cases hv : cs[i] with
    | int k z =>
      rw [hv] at hok
      simp only [Cell.ok, he] at hok
      obtain ⟨rfl, hw⟩ := hok
      have hw' : (Lit.int .u8 z).wf = true := by
        unfold Lit.wf
        rw [Bool.and_eq_true]
        exact ⟨decide_eq_true hw.1, decide_eq_true hw.2⟩
      simp only [← u8_of_wf hw']
    | _ => rw [hv] at hok; simp [Cell.ok, he] at hok
end
end Lk
set_option linter.unusedVariables false
namespace Go.Proofs.YtbbfjlnkhenbiaaGreatDoor
open Go.ChangeShapes Go.WideShapes Go.RowKit
theorem ownKnobNone : ownKnob Tryz.prog.godebug = none := by kernel_rfl
theorem laidOutAll : laidOutB Tryz.prog = true := by kernel_rfl
theorem fct_laid : laidOutB Tryz.checked.prog = true := by kernel_rfl
theorem fct_maps : mapsRowed Tryz.checked.prog = true := by kernel_rfl
theorem fct_main : Tryz.pinned.checked.prog.mainIs = some (true, "4736a4bc1d7c2a11b3f22ede3d728542dee251bc231c57510651c71e852807fa".toList) := by kernel_rfl
theorem fct_looks : true = Tryz.pinned.checked.prog.looks [] := by kernel_rfl
def laidList : List (String × DataW Unit) := [("errors.errorType", Rows.laid_errors_errorType)]
theorem et_g : Tryz.prog.globalNamed "errors.errorType" = some 0 := by kernel_rfl
theorem et_rt : (Tryz.prog.cutTypes.find? (·.1 == "internal/reflectlite.rtype")).map (·.2) = some 162 := by kernel_rfl
theorem et_row : ((List.range 244).filter fun t => Tryz.prog.rowNamed t [101, 114, 114, 111, 114]) = [29] := by kernel_rfl
theorem et_size : Tryz.prog.types.size = 244 := by kernel_rfl
theorem handle_of_laid {W : World} (h : laidMetH Tryz.prog laidList W) : Et W := by
  have h' : laidMet Tryz.prog [] W ∧ handlesMet Tryz.prog laidList W := h
  obtain ⟨name, u, ty, e1, e2, e3, e4, e5⟩ := h'.2 _ (List.mem_singleton.2 rfl)
  have en : name = [101, 114, 114, 111, 114] := (Option.some.inj e1).symm
  subst en
  obtain rfl := Option.some.inj (et_rt.symm.trans e2)
  have hm : ty ∈ (List.range 244).filter fun t => Tryz.prog.rowNamed t [101, 114, 114, 111, 114] := List.mem_filter.2 ⟨List.mem_range.2 (by rw [← et_size]; exact e3), e4⟩
  rw [et_row] at hm
  obtain rfl := List.mem_singleton.1 hm
  have hh : typeHandle Tryz.prog 29 = .pointer (some ⟨2, 29, none⟩) := by kernel_rfl
  rw [hh] at e5
  have := World.var?_cell et_g e5 0
  unfold Et hnd
  simpa using this
noncomputable def laidWorld (os : Os) : World :=
  let w0 := World.holding Tryz.prog os ⟨#[], #[], []⟩
  { w0 with heap := w0.heap.modify 0 fun
      | .cells _ t frozen => .cells #[.iface 162 (.agg #[.pointer (some ⟨2, 29, none⟩)])] t frozen
      | o => o }
theorem laidWorld_met (os : Os) (args : Array Value) : laidMetH Tryz.prog laidList ((laidWorld os).forCall (fun _ _ => 0) ⟨#[], args, []⟩).memory :=
  laidMetH_of_parts (laidMet_nil _ _) (by kernel_rfl)
end Go.Proofs.YtbbfjlnkhenbiaaGreatDoor
namespace Go.Proofs.YtbbfjlnkhenbiaaGreatDoor.offsetVerifies
open Go.ChangeShapes Go.WideShapes Go.ChangeAt Go.RowKit Lk
open Go.ChangeMaps (open_string shut_string)
set_option linter.unusedVariables false
set_option linter.unusedSimpArgs false
set_option maxRecDepth 100000 in
theorem lifted (os : Os) (started : os.Started) (H : Type) (enc : TypeId × Value → H) :
    ReturnsInHanded {} Tryz.checked os 8 .any (fun w args => (Rows.offsetVerifiesSpec.pre enc Tryz.prog Tryz.f8 [] false w args ∧ laidMetH Tryz.prog laidList w) ∧ sizedMet enc Tryz.prog Tryz.f8 (OpenSpec.ofChange Rows.offsetVerifiesSpec) false w args)
      (Rows.offsetVerifiesSpec.post enc Tryz.prog Tryz.f8 false true false false) := by
  refine returnsInHanded_of_change_and (C := Tryz.checked) (X := fun w _ => laidMetH Tryz.prog laidList w) (fun _ _ _ hh h => h.of_heap hh) ownKnobNone started (by kernel_rfl) Tryz.func8
    (ChangeSpec.witness_at (enc := enc) (C := Tryz.checked) (os := os) (X := fun w _ => laidMetH Tryz.prog laidList w) false (laidWorld os) #[.slice none 0 0, .string ByteArray.empty, .string ByteArray.empty, .string ByteArray.empty, .string ByteArray.empty] 8 rfl (by kernel_rfl) (by kernel_rfl) (by kernel_rfl) (by kernel_rfl) (by kernel_rfl) (laidWorld_met os _)) ?_
  intro W base args ds gs before hval0 hW _ _ hLd _
  have hval : ∀ (j : Nat) t v, Tryz.f8.params[j]? = some t → args[j]? = some v → Value.okWide Tryz.prog W .any base t v := hval0
  have hW' := hW
  obtain ⟨p, q, hA0, hV, rfl, hfz, hnd⟩ := hW
  have hA : DataW.TrodAll enc Tryz.prog W 0 (fun _ => true) true Tryz.f8.params.toList args.toList ds p := hA0
  have hEt : Et W := handle_of_laid hLd
  rw [Tryz.params8] at hA hval
  obtain ⟨v0, vs0, d0, ds0, p0, q0, hargs, rfl, rfl, h0, r0⟩ := trodAll_cons hA
  obtain ⟨v1, vs1, d1, ds1, p1, q1, rfl, rfl, rfl, h1, r1⟩ := trodAll_cons r0
  obtain ⟨v2, vs2, d2, ds2, p2, q2, rfl, rfl, rfl, h2, r2⟩ := trodAll_cons r1
  obtain ⟨v3, vs3, d3, ds3, p3, q3, rfl, rfl, rfl, h3, r3⟩ := trodAll_cons r2
  obtain ⟨v4, vs4, d4, ds4, p4, q4, rfl, rfl, rfl, h4, r4⟩ := trodAll_cons r3
  obtain ⟨rfl, rfl, rfl⟩ := trodAll_nil r4
  obtain rfl : args = #[v0, v1, v2, v3, v4] := by cases args; simp_all
  obtain ⟨rfl, rfl⟩ := trodVars_none hV
  have k0 := h0
  have lt0 : ∀ x ∈ p0, x.block < W.heap.size := by obtain ⟨m, hm⟩ := k0; exact DataW.trod_lt m _ _ _ hm
  obtain ⟨a0, len0, cap0, rfl⟩ := okWide_slice Tryz.underlying22 (hval 0 22 v0 rfl rfl)
  obtain ⟨l0, hl0, s0⟩ := open_slice_u8 Tryz.underlying22 Tryz.underlying5 (by kernel_rfl) h0
  have k1 := h1
  have lt1 : ∀ x ∈ p1, x.block < W.heap.size := by obtain ⟨m, hm⟩ := k1; exact DataW.trod_lt m _ _ _ hm
  obtain ⟨a1, rfl, rfl, rfl, w1⟩ := open_string Tryz.underlying9 (hval 1 9 v1 rfl rfl) h1
  have k2 := h2
  have lt2 : ∀ x ∈ p2, x.block < W.heap.size := by obtain ⟨m, hm⟩ := k2; exact DataW.trod_lt m _ _ _ hm
  obtain ⟨a2, rfl, rfl, rfl, w2⟩ := open_string Tryz.underlying9 (hval 2 9 v2 rfl rfl) h2
  have k3 := h3
  have lt3 : ∀ x ∈ p3, x.block < W.heap.size := by obtain ⟨m, hm⟩ := k3; exact DataW.trod_lt m _ _ _ hm
  obtain ⟨a3, rfl, rfl, rfl, w3⟩ := open_string Tryz.underlying9 (hval 3 9 v3 rfl rfl) h3
  have k4 := h4
  have lt4 : ∀ x ∈ p4, x.block < W.heap.size := by obtain ⟨m, hm⟩ := k4; exact DataW.trod_lt m _ _ _ hm
  obtain ⟨a4, rfl, rfl, rfl, w4⟩ := open_string Tryz.underlying9 (hval 4 9 v4 rfl rfl) h4
  clear hA0 hval0
  refine (OffsetVerifies_any _ l0 a1 a2 a3 a4 W hEt s0).mono fun e W' ⟨he, bel⟩ => ?_
  subst he
  exact ⟨_, rfl, _, _, _, [], _, [], hW', trodAll_mk1 (shut_bool Tryz.underlying4 _), (trodAll_cons_mk (Below.trod laidOutAll (by kernel_rfl) (of_decide_eq_true (by kernel_rfl)) k0 bel lt0) (trodAll_cons_mk (Below.trod laidOutAll (by kernel_rfl) (of_decide_eq_true (by kernel_rfl)) k1 bel lt1) (trodAll_cons_mk (Below.trod laidOutAll (by kernel_rfl) (of_decide_eq_true (by kernel_rfl)) k2 bel lt2) (trodAll_cons_mk (Below.trod laidOutAll (by kernel_rfl) (of_decide_eq_true (by kernel_rfl)) k3 bel lt3) (trodAll_cons_mk (Below.trod laidOutAll (by kernel_rfl) (of_decide_eq_true (by kernel_rfl)) k4 bel lt4) trodAll_mk0))))), rfl, bel.frame _, fun h => by cases h⟩
set_option maxHeartbeats 8000000 in
theorem closed : joinedFacts Tryz.checked.prog 8 Tryz.f8 Rows.offsetVerifiesSpec Rows.offsetVerifiesRow = true := by
  unfold joinedFacts
  simp only [Bool.and_eq_true]
  repeat' apply And.intro
  all_goals first | with_reducible exact fct_laid | with_reducible exact fct_maps | as_aux_lemma => kernel_rfl
theorem named_f : Tryz.prog.funcNamed "lockbox/lockboxlaw15.OffsetVerifies" = some 8 := by kernel_rfl
theorem over : Rows.OffsetVerifiesSaid :=
  OpenClaim.holds_of_wide 8 Tryz.f8 rfl rfl rfl rfl rfl rfl rfl ⟨rfl, rfl, rfl, rfl, rfl⟩ rfl rfl rfl rfl rfl named_f Tryz.func8 closed
    (of_decide_eq_true (by kernel_rfl)) (by unfold Func.isWrapper; first | (rw [if_pos (by decide +kernel)]; kernel_rfl) | (rw [if_neg (by decide +kernel)]; exact ⟨rfl, rfl⟩))
    (fun os started H enc _ => lifted os started H enc)
theorem params_ok (j : Nat) (t : TypeId) (ht : Tryz.f8.params[j]? = some t) : Tryz.prog.wantsStandIn t = false := by
  rw [Tryz.params8] at ht
  have hm : t ∈ #[22, 9, 9, 9, 9] := Array.mem_of_getElem? ht
  simp only [List.mem_toArray, List.mem_cons, List.not_mem_nil, or_false] at hm
  rcases hm with rfl | rfl | rfl | rfl | rfl
  · show Tryz.prog.wantsStandIn 22 = false
    kernel_rfl
  · show Tryz.prog.wantsStandIn 9 = false
    kernel_rfl
  · show Tryz.prog.wantsStandIn 9 = false
    kernel_rfl
  · show Tryz.prog.wantsStandIn 9 = false
    kernel_rfl
  · show Tryz.prog.wantsStandIn 9 = false
    kernel_rfl
theorem wf_text : Rows.offsetVerifiesRow.wfByText (OpenSpec.ofChange Rows.offsetVerifiesSpec) = true := by kernel_rfl
theorem goes_no : false = Rows.offsetVerifiesRow.goesBy Tryz.pinned.checked.prog := by kernel_rfl
theorem card_holds : Rows.OffsetVerifiesCardSaid :=
  Claim7.holds_tied_plain_at .later [] [.handle] true (true, "4736a4bc1d7c2a11b3f22ede3d728542dee251bc231c57510651c71e852807fa") true
    over (fun _ h => by cases h) wf_text (fun _ h => by cases h) offsetVerifies_row_tie rfl ⟨rfl, rfl⟩ fct_main rfl
    (fun f fn hf hfn => by
      obtain rfl : f = 8 := Option.some.inj (named_f.symm.trans hf) |>.symm
      obtain rfl : fn = Tryz.f8 := (Option.some.inj (Tryz.func8.symm.trans hfn)).symm
      exact ⟨fct_looks, fun j t ht => params_ok j t ht⟩)
    goes_no
#print axioms card_holds
end Go.Proofs.YtbbfjlnkhenbiaaGreatDoor.offsetVerifies
namespace Go.Proofs.YtbbfjlnkhenbiaaGreatDoor
/-- The card, under a short name, for the claim. -/
theorem offsetVerifies_holds : Rows.OffsetVerifiesCardSaid := offsetVerifies.card_holds
end Go.Proofs.YtbbfjlnkhenbiaaGreatDoor
