/- Cryptograms of cards: Make, Verify, One. -/
import Derived.Test.YtidgmokbkepcdaaDoorKB5
set_option linter.unusedVariables false
set_option linter.unusedSimpArgs false
namespace Lk
open Go Go.RowKit
theorem SlB.rd {w : World} {g o L c : Nat} {l : List UInt8} (h : SlB w (.slice (some ⟨g, o, none⟩) L c) l) : Rd w g o l := by
  obtain ⟨A', c', e, _, h2, _, h4⟩ := h
  cases e
  intro k hk
  obtain ⟨g', o', e2, hr⟩ := h4 (by omega)
  cases e2
  exact hr k hk
/-- a code turned by an answer's two bytes -/
def turn2 (c a : List UInt8) : List UInt8 := (c.set 0 (g8 c 0 ^^^ g8 a 0)).set 1 (g8 c 1 ^^^ g8 a 1)
theorem turn2_len (c a : List UInt8) : (turn2 c a).length = c.length := by simp [turn2]
/-- nil, or the error of a wrong sum -/
def sumErr (b : Bool) : Value := bif b then .nilIface else .iface 66 (.int .i64 4)
def pone (key code ans : List UInt8) : List UInt8 := ptriple key (turn2 code ans) false
theorem pretail_len (key text : List UInt8) : (pretail key text).length = 8 := ptriple_len _ _ _
end Lk
namespace Go.Proofs.YtidgmokbkepcdaaDoor
open Go.RowKit Lk
theorem Retail_at (n : Nat) (k : Int) (hkn : k = n) (vk vt : Value) (key text : List UInt8) (w : World) (hk : SlB w vk key) (hkl : key.length = 16) (hs : SlB w vt text) (hl : text.length ≤ 1000) (hn1 : 1 ≤ n) (hn2 : n ≤ 8) :
    Calls Tryd.prog 39 #[vk, vt, .int .i64 k] w fun e w' => ∃ v, e = .returned (.tuple #[v, .nilIface]) ∧ Own w' w.heap.size v ((pretail key text).take n) ∧ Below w.heap.size w w' := by
  subst hkn; exact Retail_any vk vt n key text w hk hkl hs hl hn1 hn2
set_option maxHeartbeats 800000 in
set_option maxRecDepth 100000 in
theorem Make_any (vk vt : Value) (key text : List UInt8) (w : World) (hk : SlB w vk key) (hkl : key.length = 16) (hs : SlB w vt text) (hl : text.length ≤ 255) :
    Calls Tryd.prog 37 #[vk, vt] w fun e w' => ∃ v, e = .returned (.tuple #[v, .nilIface]) ∧ Own w' w.heap.size v (pretail key text) ∧ Below w.heap.size w w' := by
  have hR := Retail_at 8 8 rfl vk vt key text w hk hkl hs (by omega) (by decide) (by decide)
  rw [List.take_of_length_le (by rw [pretail_len]; decide)] at hR
  have HR := Lib.hid hR
  obtain ⟨L, eL⟩ : ∃ L, text.length = L := ⟨_, rfl⟩
  obtain ⟨At, ct, rfl⟩ := hs.form eL
  obtain ⟨Ak, ck, rfl⟩ := hk.form hkl
  rw [eL] at hl
  clear hR hk hs eL hkl
  go_enter Tryd.func37, Tryd.ntmps37
  go_wp2_with fail
  refine HR.out.mono ?_
  rintro e w1 ⟨v, rfl, hO, hL⟩
  have HO := Lib.hid hO
  have HL := Lib.hid hL
  obtain ⟨A1, c1, rfl⟩ := hO.slB.form (pretail_len _ _)
  clear hO hL
  go_wp2_with fail
  go_ret2
  exact ⟨_, rfl, HO.out, HL.out⟩
set_option maxHeartbeats 800000 in
set_option maxRecDepth 100000 in
theorem Verify_any (vk vt vc : Value) (key text code : List UInt8) (w : World) (hk : SlB w vk key) (hkl : key.length = 16) (hs : SlB w vt text) (hl : text.length ≤ 255) (hc : SlB w vc code) :
    Calls Tryd.prog 38 #[vk, vt, vc] w fun e w' => e = .returned (sumErr (pretail key text == code)) ∧ Below w.heap.size w w' := by
  have HM := Lib.hid (Make_any vk vt key text w hk hkl hs hl)
  have HC := Lib.hid (fun w' (h : Below w.heap.size w w') => hc.below h)
  obtain ⟨Ak, ck, rfl⟩ := hk.form hkl
  obtain ⟨At, Lt, ct, rfl⟩ : ∃ A L c, vt = .slice A L c := by obtain ⟨A, c, e, _⟩ := hs; exact ⟨A, _, c, e⟩
  obtain ⟨Ac, Lc, cc, rfl⟩ : ∃ A L c, vc = .slice A L c := by obtain ⟨A, c, e, _⟩ := hc; exact ⟨A, _, c, e⟩
  clear hk hs hc hl hkl
  obtain ⟨b, eb⟩ : ∃ b, (pretail key text == code) = b := ⟨_, rfl⟩
  rw [eb]
  have HE := Lib.hid eb
  clear eb
  cases b
  all_goals
    go_enter Tryd.func38, Tryd.ntmps38
    go_wp2_with fail
    refine HM.out.mono ?_
    rintro e w1 ⟨v, rfl, hO, hL⟩
    have HS := Lib.hid hO.slB
    have HL := Lib.hid hL
    obtain ⟨A1, c1, rfl⟩ := hO.slB.form (pretail_len _ _)
    clear hO hL
    go_wp2_with fail
    refine (Equal_any _ _ (pretail key text) code w1 HS.out (HC.out w1 HL.out) (by rw [pretail_len]; decide)).mono ?_
    rintro e w2 ⟨rfl, hD⟩
    have HL2 := Lib.hid (below_more HL.out hD.below0 HL.out.size)
    clear hD
    rw [HE.out]
    go_wp2_with fail
    go_ret
    exact ⟨rfl, HL2.out⟩
set_option maxHeartbeats 1600000 in
set_option maxRecDepth 100000 in
theorem One_any (vk vc : Value) (key code ans : List UInt8) (w : World) (hk : SlB w vk key) (hkl : key.length = 16) (hc : SlB w vc code) (hcl : code.length = 8) (hal : ans.length = 2) :
    Calls Tryd.prog 22 #[vk, vc, .agg (Bs ans)] w fun e w' => ∃ v, e = .returned (.tuple #[v, .nilIface]) ∧ NewA w' w.heap.size v (pone key code ans) ∧ Below w.heap.size w w' := by
  obtain ⟨N, hN⟩ : ∃ N, w.heap.size = N := ⟨_, rfl⟩
  have HN := Lib.hid hN
  have HK := Lib.hid (fun (w' : World) (hw' : Below N w w') => hk.below (by rw [hN]; exact hw'))
  have HC := Lib.hid (fun (w' : World) (hw' : Below N w w') => hc.below (by rw [hN]; exact hw'))
  have HKL := Lib.hid hkl
  have HCL := Lib.hid hcl
  have HAL := Lib.hid hal
  obtain ⟨Ak, ck, rfl⟩ := hk.form hkl
  obtain ⟨gc, oc, cc, rfl⟩ : ∃ g o c, vc = .slice (some ⟨g, o, none⟩) 8 c := by
    obtain ⟨A, c, e, _, h2, _, h4⟩ := hc
    obtain ⟨g, o, rfl, _⟩ := h4 (by omega)
    exact ⟨g, o, c, by rw [e, hcl]⟩
  have hto : okParts key = true := by unfold okParts; rw [hkl]; rfl
  have HTO := Lib.hid hto
  obtain ⟨t, et⟩ : ∃ t, turn2 code ans = t := ⟨_, rfl⟩
  have htl : t.length = 8 := by rw [← et, turn2_len, hcl]
  have HTL := Lib.hid htl
  have HET := Lib.hid et
  clear hk hc hkl hcl hal hto et htl
  go_enter Tryd.func22, Tryd.ntmps22
  go_wp2_with (first
    | ((with_reducible show wpList _ _ _ _ _ w); refine box_blk (w := w) rfl 55 _ rfl ans rfl ?_; intro w1 hB1 hG1 hz1; have hM1 : Below N w w1 := (below_none (Below.refl _ _) (by omega) hG1); rw [hN] at hB1 hz1)
    | (refine to_array rfl 73 _ rfl (some ⟨gc, oc, none⟩) 8 8 cc 5 (by rfl) (Nat.le_refl _) (by kernel_rfl) ?_)
    | (refine load_rd rfl 73 _ rfl gc oc 8 5 code (by rfl) (HC.out w1 hM1).rd HCL.out (by kernel_rfl) (by kernel_rfl) ?_)
    | ((with_reducible show wpList _ _ _ _ _ w1); refine alloc_row (w := w1) rfl 73 rfl (.agg (Bs (List.replicate 8 0))) 8 (fun _ => by kernel_rfl) rfl ?_; intro w2 hR2 _ hG2 hz2; have hB2 := hB1.old hG2 (by simp); have hM2 : Below N w w2 := (below_none hM1 (by omega) hG2); rw [hz1] at hR2 ⊢)
    | ((with_reducible show wpList _ _ _ _ _ w2); refine store_blk (w := w2) rfl 73 _ _ rfl (N + 1) 73 8 code (by rfl) (by rfl) hR2 HCL.out (by kernel_rfl) ?_; intro w3 hB3 hG3 hz3; have hA3 := hB2.old hG3 (by simp); have hM3 : Below N w w3 := (below_new hM2 (by omega) hG3 (by omega)); have c0 : w3.cell? ⟨N + 1, 0, none⟩ = some (.int .u8 (bv (g8 code 0))) := (hB3.cell 0 (by rw [HCL.out]; decide)); have a0 : w3.cell? ⟨N, 0, none⟩ = some (.int .u8 (bv (g8 ans 0))) := (hA3.cell 0 (by rw [HAL.out]; decide)))
    | ((with_reducible show wpList _ _ _ _ _ w3); refine store_b (w := w3) rfl 5 _ _ rfl (N + 1) 0 73 code (g8 code 0 ^^^ g8 ans 0) (by rfl) _ (by rfl) rfl hB3 (by rw [HCL.out]; decide) (by kernel_rfl) ?_; intro w4 hB4 hG4 hz4; have hA4 := hA3.old hG4 (by simp); have hM4 : Below N w w4 := (below_new hM3 (by omega) hG4 (by omega)); have c1 : w4.cell? ⟨N + 1, 1, none⟩ = some (.int .u8 (bv (g8 code 1))) := (by have h := hB4.cell 1 (by rw [List.length_set, HCL.out]; decide); rw [show g8 (code.set 0 (g8 code 0 ^^^ g8 ans 0)) 1 = g8 code 1 from by simp [g8]] at h; exact h); have a1 : w4.cell? ⟨N, 1, none⟩ = some (.int .u8 (bv (g8 ans 1))) := (hA4.cell 1 (by rw [HAL.out]; decide)))
    | ((with_reducible show wpList _ _ _ _ _ w4); refine store_b (w := w4) rfl 5 _ _ rfl (N + 1) 1 73 _ (g8 code 1 ^^^ g8 ans 1) (by rfl) _ (by rfl) rfl hB4 (by rw [List.length_set, HCL.out]; decide) (by kernel_rfl) ?_; intro w5 hB5 hG5 hz5; have hM5 : Below N w w5 := (below_new hM4 (by omega) hG5 (by omega)); have hT5 : Blk w5 (N + 1) 73 t := (by rw [← HET.out]; exact hB5); have hM5n : N ≤ w5.heap.size := (by omega))
    | ((with_reducible show wpList _ _ _ _ _ w5); refine load_blk (w := w5) rfl 73 _ rfl (N + 1) 73 8 5 t (by rfl) hT5 HTL.out (by kernel_rfl) (by kernel_rfl) ?_)
    | (go_at_call 32; refine (Triple_any _ key t false w5 (HK.out w5 hM5) HTL.out).mono ?_; rintro e w6 ⟨rfl, hL6⟩; rw [HTO.out]; have hM6 : Below N w w6 := (below_more hM5 hL6 hM5n); have hM6n := Nat.le_trans hM5n hL6.size)
    | ((with_reducible show wpList _ _ _ _ _ w6); refine alloc_row (w := w6) rfl 73 rfl (.agg (Bs (List.replicate 8 0))) 8 (fun _ => by kernel_rfl) rfl ?_; intro w7 hR7 _ hG7 hz7; have hM7 : Below N w w7 := (below_none hM6 hM6n hG7))
    | ((with_reducible show wpList _ _ _ _ _ w7); refine store_blk (w := w7) rfl 73 _ _ rfl w6.heap.size 73 8 (ptriple key t false) (by rfl) (by rfl) hR7 (ptriple_len _ _ _) (by kernel_rfl) ?_; intro w8 hB8 hG8 hz8; have hM8 : Below N w w8 := (below_new hM7 (by omega) hG8 hM6n); obtain ⟨g8x, eg8⟩ : ∃ g, w6.heap.size = g := ⟨_, rfl⟩; rw [eg8] at hB8 hM6n ⊢))
  go_ret2
  exact ⟨_, rfl, ⟨g8x, 73, by decide, by unfold pone; rw [ptriple_len]; rfl, by rw [HN.out]; exact hM6n, by unfold pone; rw [HET.out]; exact hB8⟩, by rw [HN.out]; exact hM8⟩
end Go.Proofs.YtidgmokbkepcdaaDoor
set_option linter.unusedVariables false
set_option linter.unusedSimpArgs false
namespace Lk
open Go Go.RowKit
theorem zeroCells_u8 (n : Nat) : Builtin.zeroCells (Value.int .u8 0).cells n = Bs (List.replicate n 0) := by
  apply Array.ext
  · simp [Builtin.zeroCells, Bs, Value.cells]
  · intro i h1 h2
    simp [Builtin.zeroCells, Bs, Value.cells, Nat.mod_one, bv]
theorem Bs_app (l m : List UInt8) : Bs l ++ Bs m = Bs (l ++ m) := by simp [Bs]
section
variable {P : Program} {ops : Array Oper} {rest : List Oper} {o : Oper} {a : Act} {w : World} {Q : Exit → Act → World → Prop}
/-- append(nil, make([]byte, n)...), n above 0 -/
theorem run_append_made (w : World) (t ti ty e : TypeId) (i : TypeInfo) (kd : IntKind) (ht : P.underlying t = some (.slice e)) (hti : P.underlying ti = some (.int kd)) (hi : P.info? e = some i) (hz : i.zero = some (.int .u8 0)) (hs : i.size = 1) (hb : i.bytes = 1)
    (n : Nat) (h0 : 0 < n) (h1 : n ≤ 1000000) (hzv : ∀ w : World, (zeroValue e).run P w = .ok (.int .u8 0) w) :
    ∃ cap, (Builtin.append_ #[t, ti] ty #[.slice none 0 0, .int .i64 n]).run P w = .ok (.slice (some ⟨w.heap.size, 0, none⟩) n cap) (w.drew.alloc (.cells (Bs (List.replicate cap 0)) e)) ∧ n ≤ cap ∧ cap ≤ maxLen := by
  refine ⟨grownCap w n 0 e, ?_, grownCap_ge w n 0 e, grownCap_le_maxLen w n 0 e (by unfold maxLen; omega)⟩
  have hw : IntKind.i64.wrap (n : Int) = n := wrap_i64 n (by omega)
  have e1 : ¬ ((n : Int) < 0) := by omega
  have e2 : ¬ (281474976710656 < (n : Int)) := by omega
  have e3 : ¬ n = 0 := by omega
  have e4 : ¬ (9223372036854775807 < (n : Int)) := by omega
  have e5 : ¬ (281474976710656 < Builtin.nextslicecap n 0) := by rw [nextslicecap_zero h0]; omega
  have ha : ∀ w, (asIntOf (.int .i64 (n : Int))).run P w = .ok (.i64, (n : Int)) w := fun _ => rfl
  have e6 : ¬ ((n : Int) ≤ 0) := by omega
  have e7 : max (n : Int) 0 = n := by omega
  simp [Builtin.append_, run_underlying ht, run_underlying hti, Go.sizeOf, typeInfo, hi, hs, hb, hz, hw, hzv, asInt, ha, e6, e7, e1, e2, e3, e4, e5, Question.forced, run_firstCells_none, newRow, grownCap]
  rw [zeroCells_u8, zeroCells_u8, Bs_app, List.replicate_append_replicate]
  have := grownCap_ge w n 0 e
  unfold grownCap at this
  rw [Nat.add_sub_cancel' this]
theorem append_made (hgd : o.guard = none) (s x : Operand) (t ti e : TypeId) (ho : o.op = .call { callee := .builtin .append, args := #[s, x], argTypes := #[t, ti] }) (i : TypeInfo) (kd : IntKind) (ht : P.underlying t = some (.slice e)) (hti : P.underlying ti = some (.int kd)) (hi : P.info? e = some i) (hz : i.zero = some (.int .u8 0)) (hs : i.size = 1) (hb : i.bytes = 1)
    (n : Nat) (h0 : 0 < n) (h1 : n ≤ 1000000) (hzv : ∀ w : World, (zeroValue e).run P w = .ok (.int .u8 0) w) (hx : a.eval s = .slice none 0 0) (hy : a.eval x = .int .i64 n)
    (h : ∀ cap w1, n ≤ cap → cap ≤ maxLen → Blk w1 w.heap.size e (List.replicate cap 0) → w.grownBy w1 none → w1.heap.size = w.heap.size + 1 → wpList P ops Q rest (a.put o.dst (.slice (some ⟨w.heap.size, 0, none⟩) n cap)) w1) : wpList P ops Q (o :: rest) a w :=
  wpList_plain hgd fun _ hK => by
    obtain ⟨cap, hr, h2, h3⟩ := run_append_made (P := P) w t ti o.type e i kd ht hti hi hz hs hb n h0 h1 hzv
    unfold Oper.wp execOp
    simp only [ho, resolve, invoke, builtin, Sem.run_bind, Sem.run_pure, Result.andThen_ok, List.map_toArray, List.map_cons, List.map_nil, hx, hy, hr]
    exact hK _ _ (h cap _ h2 h3 (heap_alloc_new w.drew _) (grown_alloc (grown_drew (grown_refl w none)) _) (by show (w.heap.push _).size = _; simp))
end
/-- an owned slice of no length, of room -/
theorem own_room {w : World} {g cap base : Nat} (hB : Blk w g u8t (List.replicate cap 0)) (hc : cap ≤ maxLen) (hb : base ≤ g) : Own w base (.slice (some ⟨g, 0, none⟩) 0 cap) [] :=
  ⟨rfl, .inr ⟨g, cap, _, rfl, hb, hB, Nat.zero_le _, hc, by rw [Bs_size, List.length_replicate, Nat.mul_one], by simp [Bl]⟩⟩
end Lk
namespace Go.Proofs.YtidgmokbkepcdaaDoor
open Go.RowKit Lk
set_option maxHeartbeats 800000 in
set_option maxRecDepth 100000 in
theorem Grow_nil (n : Nat) (w : World) (h0 : 0 < n) (h1 : n ≤ 1000000) :
    Calls Tryd.prog 58 #[.slice none 0 0, .int .i64 n] w fun e w' => ∃ v, e = .returned v ∧ Own w' w.heap.size v [] ∧ Below w.heap.size w w' := by
  obtain ⟨i, hi, hz, hs, hb⟩ := info_parts hu_u8
  have i0 : (0 : Int) < (n : Int) := by omega
  go_enter Tryd.func58, Tryd.ntmps58
  go_wp2_with (refine append_made rfl _ _ 22 3 5 rfl i .i64 (by kernel_rfl) (by kernel_rfl) hi hz hs hb n h0 h1 (fun _ => by kernel_rfl) (by rfl) (by rfl) ?_; intro cap w1 hc1 hc2 hB hG hs1; have hci : (0 : Int) ≤ (cap : Int) := (by omega))
  go_ret
  exact ⟨_, rfl, own_room hB hc2 (Nat.le_refl _), below_of_grown hG⟩
set_option maxHeartbeats 1600000 in
set_option maxRecDepth 100000 in
theorem Concat3 (g : Nat) (v1 v2 v3 : Value) (l1 l2 l3 : List UInt8) (w : World) (c1 : w.cell? ⟨g, 0, none⟩ = some v1) (c2 : w.cell? ⟨g, 1, none⟩ = some v2) (c3 : w.cell? ⟨g, 2, none⟩ = some v3)
    (h1 : SlB w v1 l1) (h2 : SlB w v2 l2) (h3 : SlB w v3 l3) (m1 : l1.length ≤ 1000) (m2 : l2.length ≤ 1000) (m3 : l3.length ≤ 1000) (hp : 0 < l1.length) :
    Calls Tryd.prog 40 #[.slice (some ⟨g, 0, none⟩) 3 3] w fun e w' => ∃ v, e = .returned v ∧ Own w' w.heap.size v (l1 ++ l2 ++ l3) ∧ Below w.heap.size w w' := by
  obtain ⟨N, hN⟩ : ∃ N, w.heap.size = N := ⟨_, rfl⟩
  have HN := Lib.hid hN
  have hg : g < N := by rw [← hN]; exact block_of_cell c1
  obtain ⟨L1, e1⟩ : ∃ L, l1.length = L := ⟨_, rfl⟩
  obtain ⟨L2, e2⟩ : ∃ L, l2.length = L := ⟨_, rfl⟩
  obtain ⟨L3, e3⟩ : ∃ L, l3.length = L := ⟨_, rfl⟩
  obtain ⟨A1, k1, rfl⟩ := h1.form e1
  obtain ⟨A2, k2, rfl⟩ := h2.form e2
  obtain ⟨A3, k3, rfl⟩ := h3.form e3
  have E1 := Lib.hid e1
  have E2 := Lib.hid e2
  have E3 := Lib.hid e3
  have H1 := Lib.hid (fun (w' : World) (hw' : Below N w w') => h1.below (by rw [hN]; exact hw'))
  have H2 := Lib.hid (fun (w' : World) (hw' : Below N w w') => h2.below (by rw [hN]; exact hw'))
  have H3 := Lib.hid (fun (w' : World) (hw' : Below N w w') => h3.below (by rw [hN]; exact hw'))
  have HC1 := Lib.hid c1
  have HC2 := Lib.hid c2
  have HC3 := Lib.hid c3
  rw [e1] at m1 hp
  rw [e2] at m2
  rw [e3] at m3
  clear h1 h2 h3 e1 e2 e3
  go_enter Tryd.func40, Tryd.ntmps40
  go_wp2_with fail
  go_loop [3, 11] (fun n i => ∃ (k t : Nat), i = .int .i64 k ∧ n = .int .i64 t ∧ ((k = 0 ∧ t = 0) ∨ (k = 1 ∧ t = L1) ∨ (k = 2 ∧ t = L1 + L2) ∨ (k = 3 ∧ t = L1 + L2 + L3))) (fun _ i => 3 - (intOf i).toNat)
  case atStart => exact ⟨0, 0, rfl, rfl, .inl ⟨rfl, rfl⟩⟩
  case round =>
    obtain ⟨k, t, rfl, rfl, hk⟩ := hrel
    have ht : t ≤ 3000 := by omega
    rcases hk with ⟨rfl, hk⟩ | ⟨rfl, hk⟩ | ⟨rfl, hk⟩ | ⟨rfl, hk⟩
    · have HK := Lib.hid hk
      clear hk
      go_wp2
      go_round
      case rel => exact ⟨1, t + L1, by go_num, by go_num, .inr (.inl ⟨rfl, by have := HK.out; omega⟩)⟩
      case measure => simp [intOf]
    · have HK := Lib.hid hk
      clear hk
      go_wp2
      go_round
      case rel => exact ⟨2, t + L2, by go_num, by go_num, .inr (.inr (.inl ⟨rfl, by have := HK.out; omega⟩))⟩
      case measure => simp [intOf]
    · have HK := Lib.hid hk
      clear hk
      go_wp2
      go_round
      case rel => exact ⟨3, t + L3, by go_num, by go_num, .inr (.inr (.inr ⟨rfl, by have := HK.out; omega⟩))⟩
      case measure => simp [intOf]
    · have ht0 : 0 < t := by omega
      clear hk c1 c2 c3
      go_wp2_with fail
      refine (Grow_nil t w ht0 (by omega)).mono ?_
      rintro e w1 ⟨v, rfl, hO, hL⟩
      rw [hN] at hO hL
      have HO := Lib.hid hO
      have HL := Lib.hid hL
      clear hO hL
      go_wp2_with fail
      go_loopw [6, 27] (fun o i wr => ∃ (k : Nat) (vo : Value) (l : List UInt8), i = .int .i64 k ∧ vo = o ∧ Own wr N vo l ∧ Below N w wr ∧ l.length ≤ 3000 ∧ ((k = 0 ∧ l = []) ∨ (k = 1 ∧ l = l1) ∨ (k = 2 ∧ l = l1 ++ l2) ∨ (k = 3 ∧ l = l1 ++ l2 ++ l3))) (fun _ i _ => 3 - (intOf i).toNat)
      case atStart => exact ⟨0, _, [], rfl, rfl, HO.out, HL.out, by decide, .inl ⟨rfl, rfl⟩⟩
      case round =>
        clear HO HL
        obtain ⟨k, o, l, rfl, ho0, hO, hL, hll, hk⟩ := hrel
        subst ho0
        have HO := Lib.hid hO
        have HL := Lib.hid hL
        have d1 := cell_below HC1.out hL hg
        have d2 := cell_below HC2.out hL hg
        have d3 := cell_below HC3.out hL hg
        have hwsz := hL.size
        rw [HN.out] at hwsz
        clear hO hL
        rcases hk with ⟨rfl, hk⟩ | ⟨rfl, hk⟩ | ⟨rfl, hk⟩ | ⟨rfl, hk⟩
        · have HK := Lib.hid hk
          clear hk
          go_wp2_with (at_builtin; refine append_b hu_sl hu_u8 rfl _ _ rfl N _ l (by rfl) HO.out _ l1 (by rfl) (H1.out wr HL.out) (by rw [E1.out]; omega) hwsz ?_; intro v2 w2 hO2 hG2; have HO2 := Lib.hid hO2; have HL2 := Lib.hid (below_own HL.out hwsz hG2 (fun k hk => (HO.out.lt k hk).1)); clear hO2 hG2)
          go_roundw
          case rel => exact ⟨1, _, _, by go_num, rfl, HO2.out, HL2.out, by rw [List.length_append, E1.out, HK.out]; simp; omega, .inr (.inl ⟨rfl, by rw [HK.out]; rfl⟩)⟩
          case measure => simp [intOf]
        · have HK := Lib.hid hk
          clear hk
          go_wp2_with (at_builtin; refine append_b hu_sl hu_u8 rfl _ _ rfl N _ l (by rfl) HO.out _ l2 (by rfl) (H2.out wr HL.out) (by rw [E2.out]; omega) hwsz ?_; intro v2 w2 hO2 hG2; have HO2 := Lib.hid hO2; have HL2 := Lib.hid (below_own HL.out hwsz hG2 (fun k hk => (HO.out.lt k hk).1)); clear hO2 hG2)
          go_roundw
          case rel => exact ⟨2, _, _, by go_num, rfl, HO2.out, HL2.out, by rw [List.length_append, E2.out, HK.out, E1.out]; omega, .inr (.inr (.inl ⟨rfl, by rw [HK.out]⟩))⟩
          case measure => simp [intOf]
        · have HK := Lib.hid hk
          clear hk
          go_wp2_with (at_builtin; refine append_b hu_sl hu_u8 rfl _ _ rfl N _ l (by rfl) HO.out _ l3 (by rfl) (H3.out wr HL.out) (by rw [E3.out]; omega) hwsz ?_; intro v2 w2 hO2 hG2; have HO2 := Lib.hid hO2; have HL2 := Lib.hid (below_own HL.out hwsz hG2 (fun k hk => (HO.out.lt k hk).1)); clear hO2 hG2)
          go_roundw
          case rel => exact ⟨3, _, _, by go_num, rfl, HO2.out, HL2.out, by rw [List.length_append, E3.out, HK.out, List.length_append, E1.out, E2.out]; omega, .inr (.inr (.inr ⟨rfl, by rw [HK.out]⟩))⟩
          case measure => simp [intOf]
        · have HK := Lib.hid hk
          clear hk
          go_wp2
          go_ret
          exact ⟨_, rfl, by rw [HN.out, ← HK.out]; exact HO.out, by rw [HN.out]; exact HL.out⟩
end Go.Proofs.YtidgmokbkepcdaaDoor
set_option linter.unusedVariables false
set_option linter.unusedSimpArgs false
namespace Lk
def ptwo (key code st more : List UInt8) : List UInt8 := (pretail key (code ++ st ++ more)).take 4
theorem ptwo_len (key code st more : List UInt8) : (ptwo key code st more).length = 4 := by unfold ptwo; rw [List.length_take, pretail_len]; rfl
end Lk
namespace Go.Proofs.YtidgmokbkepcdaaDoor
open Go.RowKit Lk
set_option maxHeartbeats 1600000 in
set_option maxRecDepth 100000 in
theorem Two_any (vk vc vm : Value) (key code st more : List UInt8) (w : World) (hk : SlB w vk key) (hkl : key.length = 16) (hc : SlB w vc code) (hcl : code.length = 8) (hsl : st.length = 4) (hm : SlB w vm more) (hml : more.length ≤ 8) :
    Calls Tryd.prog 23 #[vk, vc, .agg (Bs st), vm] w fun e w' => ∃ v, e = .returned (.tuple #[v, .nilIface]) ∧ Own w' w.heap.size v (ptwo key code st more) ∧ Below w.heap.size w w' := by
  obtain ⟨N, hN⟩ : ∃ N, w.heap.size = N := ⟨_, rfl⟩
  have HN := Lib.hid hN
  have HK := Lib.hid (fun (w' : World) (hw' : Below N w w') => hk.below (by rw [hN]; exact hw'))
  have HC := Lib.hid (fun (w' : World) (hw' : Below N w w') => hc.below (by rw [hN]; exact hw'))
  have HM := Lib.hid (fun (w' : World) (hw' : Below N w w') => hm.below (by rw [hN]; exact hw'))
  have HKL := Lib.hid hkl
  have HCL := Lib.hid hcl
  have HSL := Lib.hid hsl
  have HML := Lib.hid hml
  obtain ⟨Ak, ck, rfl⟩ := hk.form hkl
  obtain ⟨Ac, cc, rfl⟩ := hc.form hcl
  obtain ⟨Lm, eLm⟩ : ∃ L, more.length = L := ⟨_, rfl⟩
  obtain ⟨Am, cm, rfl⟩ := hm.form eLm
  rw [eLm] at hml
  clear hk hc hm hkl hcl hsl eLm
  go_enter Tryd.func23, Tryd.ntmps23
  go_wp2_with ((with_reducible show wpList _ _ _ _ _ w); refine box_blk (w := w) rfl 56 _ rfl st rfl ?_; intro w1 hB1 hG1 hz1; have hM1 : Below N w w1 := (below_none (Below.refl _ _) (by omega) hG1); rw [hN] at hB1 hz1 ⊢)
  have hM2 : Below N w (w1.alloc (.cells #[.slice Ac 8 cc, .slice (some ⟨N, 0, none⟩) 4 4, .slice Am Lm cm] 22)) := below_alloc hM1 (by omega) _
  have d1 := cell_alloc_new w1 #[.slice Ac 8 cc, .slice (some ⟨N, 0, none⟩) 4 4, .slice Am Lm cm] 0 _ (T := 22) rfl
  have d2 := cell_alloc_new w1 #[.slice Ac 8 cc, .slice (some ⟨N, 0, none⟩) 4 4, .slice Am Lm cm] 1 _ (T := 22) rfl
  have d3 := cell_alloc_new w1 #[.slice Ac 8 cc, .slice (some ⟨N, 0, none⟩) 4 4, .slice Am Lm cm] 2 _ (T := 22) rfl
  rw [hz1] at d1 d2 d3
  have s1 : SlB (w1.alloc (.cells #[.slice Ac 8 cc, .slice (some ⟨N, 0, none⟩) 4 4, .slice Am Lm cm] 22)) (.slice (some ⟨N, 0, none⟩) 4 4) st := (hB1.slB HSL.out (by decide)).alloc _
  have s2 := HC.out _ hM2
  have s3 := HM.out _ hM2
  have hs2 : N ≤ (w1.alloc (.cells #[.slice Ac 8 cc, .slice (some ⟨N, 0, none⟩) 4 4, .slice Am Lm cm] 22)).heap.size := by show N ≤ (w1.heap.push _).size; simp; omega
  generalize hw2 : w1.alloc _ = w2 at d1 d2 d3 s1 s2 s3 hM2 hs2 ⊢
  refine (Concat3 (N + 1) (.slice Ac 8 cc) (.slice (some ⟨N, 0, none⟩) 4 4) (.slice Am Lm cm) code st more w2 d1 d2 d3 s2 s1 s3 (by rw [HCL.out]; decide) (by rw [HSL.out]; decide) (by have := HML.out; omega) (by rw [HCL.out]; decide)).mono ?_
  rintro e w3 ⟨v, rfl, hO3, hL3⟩
  have hM3 : Below N w w3 := below_more hM2 hL3 hs2
  have hs3 := hM3.size
  rw [hN] at hs3
  have HO3 := Lib.hid hO3
  have HM3 := Lib.hid hM3
  obtain ⟨T, eT⟩ : ∃ T, (code ++ st ++ more).length = T := ⟨_, rfl⟩
  obtain ⟨A3, c3, e3⟩ := hO3.slB.form eT
  subst e3
  clear hO3 hL3 hM3 hM2 hM1 hB1 hG1 d1 d2 d3 s1 s2 s3 hs2 hw2 eT
  go_wp2_with fail
  refine (Retail_at 4 4 rfl _ _ key (code ++ st ++ more) w3 (HK.out w3 HM3.out) HKL.out HO3.out.slB (by rw [List.length_append, List.length_append, HCL.out, HSL.out]; have := HML.out; omega) (by decide) (by decide)).mono ?_
  rintro e w4 ⟨v4, rfl, hO4, hL4⟩
  have HO4 := Lib.hid (show Own w4 N v4 (ptwo key code st more) from hO4.lower hs3)
  have HM4 := Lib.hid (below_more HM3.out hL4 hs3)
  obtain ⟨A4, c4, e4⟩ := HO4.out.slB.form (ptwo_len _ _ _ _)
  subst e4
  clear hO4 hL4
  go_wp2_with fail
  go_ret2
  exact ⟨_, rfl, by rw [HN.out]; exact HO4.out, by rw [HN.out]; exact HM4.out⟩
end Go.Proofs.YtidgmokbkepcdaaDoor
set_option linter.unusedVariables false
set_option linter.unusedSimpArgs false
namespace Go.Proofs.YtidgmokbkepcdaaDoor
open Go.RowKit Lk
theorem One_arr (ar : Array Value) (vk vc : Value) (key code ans : List UInt8) (har : ar = Bs ans) (w : World) (hk : SlB w vk key) (hkl : key.length = 16) (hc : SlB w vc code) (hcl : code.length = 8) (hal : ans.length = 2) :
    Calls Tryd.prog 22 #[vk, vc, .agg ar] w fun e w' => ∃ v, e = .returned (.tuple #[v, .nilIface]) ∧ NewA w' w.heap.size v (pone key code ans) ∧ Below w.heap.size w w' := by
  subst har; exact One_any vk vc key code ans w hk hkl hc hcl hal
theorem Two_arr (ar : Array Value) (vk vc vm : Value) (key code st more : List UInt8) (har : ar = Bs st) (w : World) (hk : SlB w vk key) (hkl : key.length = 16) (hc : SlB w vc code) (hcl : code.length = 8) (hsl : st.length = 4) (hm : SlB w vm more) (hml : more.length ≤ 8) :
    Calls Tryd.prog 23 #[vk, vc, .agg ar, vm] w fun e w' => ∃ v, e = .returned (.tuple #[v, .nilIface]) ∧ Own w' w.heap.size v (ptwo key code st more) ∧ Below w.heap.size w w' := by
  subst har; exact Two_any vk vc vm key code st more w hk hkl hc hcl hsl hm hml
set_option maxHeartbeats 3200000 in
set_option maxRecDepth 100000 in
theorem awake19 (w : World) : Calls Tryd.prog 21 #[] w fun e w' => e = .returned (.bool true) ∧ Below w.heap.size w w' := by
  obtain ⟨N, hN⟩ : ∃ N, w.heap.size = N := ⟨_, rfl⟩
  have HN := Lib.hid hN
  obtain ⟨K, eK⟩ : ∃ K : List UInt8, List.replicate 16 0 = K := ⟨_, rfl⟩
  have hkl : K.length = 16 := by rw [← eK]; rfl
  have EK := Lib.hid eK
  have HKL := Lib.hid hkl
  clear eK hkl
  go_enter Tryd.func21, Tryd.ntmps21
  have hM0 : Below N w w := Below.refl _ _
  have hs0 : N ≤ w.heap.size := by omega
  go_wp2_with (first | (refine make_new rfl 22 5 _ _ rfl 16 (by kernel_rfl) (by kernel_rfl) .i64 .i64 rfl rfl (by omega) ?_; intro w1 hB1 hG1 hz1; have hL : Below w.heap.size w w1 := below_none (Below.refl _ _) (Nat.le_refl _) hG1; rw [EK.out, hN] at hB1; have hS := hB1.slB HKL.out (by decide); have hM1 : Below N w w1 := below_more hM0 hL hs0; have hs1 : N ≤ w1.heap.size := Nat.le_trans hs0 (hL).size; clear hM0 hs0; have K_1 := Lib.hid (hS); clear hL hB1 hG1 hz1 hS))
  go_wp2_with fail
  generalize hww2 : w1.alloc _ = w2
  have hBw2 : Blk w2 w1.heap.size 5 [1] := by rw [← hww2]; exact heap_alloc_new w1 _
  have hL : Below w1.heap.size w1 w2 := by rw [← hww2]; exact below_alloc (Below.refl _ _) (Nat.le_refl _) _
  clear hww2
  have hM2 : Below N w w2 := below_more hM1 hL hs1
  have hs2 : N ≤ w2.heap.size := Nat.le_trans hs1 (hL).size
  have K_2 := Lib.hid (K_1.out.below hL)
  clear K_1
  clear hM1 hs1
  clear hL
  have One_2 := Lib.hid (hBw2.slB (n := 1) rfl (by decide))
  clear hBw2
  refine (Make_any _ _ K [1] w2 K_2.out HKL.out One_2.out (by decide)).mono ?_
  rintro e w3 ⟨v, rfl, hO, hL⟩
  obtain ⟨C, eC⟩ : ∃ C, pretail K [1] = C := ⟨_, rfl⟩
  have hCl : C.length = 8 := by rw [← eC]; exact pretail_len _ _
  have EC := Lib.hid eC
  have HCL := Lib.hid hCl
  rw [eC] at hO
  obtain ⟨Ac, cc, rfl⟩ := hO.slB.form hCl
  clear eC hCl
  have hM3 : Below N w w3 := below_more hM2 hL hs2
  have hs3 : N ≤ w3.heap.size := Nat.le_trans hs2 (hL).size
  have K_3 := Lib.hid (K_2.out.below hL)
  clear K_2
  have One_3 := Lib.hid (One_2.out.below hL)
  clear One_2
  clear hM2 hs2
  have C_3 := Lib.hid (hO.slB)
  clear hO hL
  clear One_3
  go_wp2_with fail
  refine (One_arr #[.int .u8 0, .int .u8 0] _ _ K C [0, 0] (by rfl) w3 K_3.out HKL.out C_3.out HCL.out rfl).mono ?_
  rintro e w4 ⟨v, rfl, hO, hL⟩
  have hxl : (pone K C [0, 0]).length = 8 := ptriple_len _ _ _
  obtain ⟨gx, Tx, _, ex, _, _⟩ := hO
  rw [hxl] at ex
  subst ex
  clear hxl
  have hM4 : Below N w w4 := below_more hM3 hL hs3
  have hs4 : N ≤ w4.heap.size := Nat.le_trans hs3 (hL).size
  have K_4 := Lib.hid (K_3.out.below hL)
  clear K_3
  have C_4 := Lib.hid (C_3.out.below hL)
  clear C_3
  clear hM3 hs3
  clear hL
  go_wp2_with fail
  refine (Two_arr #[.int .u8 0, .int .u8 0, .int .u8 0, .int .u8 0] _ _ _ K C [0, 0, 0, 0] [] (by rfl) w4 K_4.out HKL.out C_4.out HCL.out rfl (slB_nil _) (by decide)).mono ?_
  rintro e w5 ⟨v, rfl, hO, hL⟩
  obtain ⟨Ay, cy, rfl⟩ := hO.slB.form (ptwo_len _ _ _ _)
  have hM5 : Below N w w5 := below_more hM4 hL hs4
  have hs5 : N ≤ w5.heap.size := Nat.le_trans hs4 (hL).size
  have K_5 := Lib.hid (K_4.out.below hL)
  clear K_4
  have C_5 := Lib.hid (C_4.out.below hL)
  clear C_4
  clear hM4 hs4
  clear hO hL
  go_wp2_with fail
  generalize hww6 : w5.alloc _ = w6
  have hBw6 : Blk w6 w5.heap.size 5 [1] := by rw [← hww6]; exact heap_alloc_new w5 _
  have hL : Below w5.heap.size w5 w6 := by rw [← hww6]; exact below_alloc (Below.refl _ _) (Nat.le_refl _) _
  clear hww6
  have hM6 : Below N w w6 := below_more hM5 hL hs5
  have hs6 : N ≤ w6.heap.size := Nat.le_trans hs5 (hL).size
  have K_6 := Lib.hid (K_5.out.below hL)
  clear K_5
  have C_6 := Lib.hid (C_5.out.below hL)
  clear C_5
  clear hM5 hs5
  clear hL
  have One_6 := Lib.hid (hBw6.slB (n := 1) rfl (by decide))
  clear hBw6
  refine (Verify_any _ _ _ K [1] C w6 K_6.out HKL.out One_6.out (by decide) C_6.out).mono ?_
  rintro e w7 ⟨rfl, hL⟩
  rw [EC.out, beq_self_eq_true, show sumErr true = .nilIface from rfl]
  have hM7 : Below N w w7 := below_more hM6 hL hs6
  have hs7 : N ≤ w7.heap.size := Nat.le_trans hs6 (hL).size
  have K_7 := Lib.hid (K_6.out.below hL)
  clear K_6
  have C_7 := Lib.hid (C_6.out.below hL)
  clear C_6
  have One_7 := Lib.hid (One_6.out.below hL)
  clear One_6
  clear hM6 hs6
  clear hL
  go_wp2_with fail
  go_ret
  exact ⟨rfl, by rw [HN.out]; exact hM7⟩
end Go.Proofs.YtidgmokbkepcdaaDoor
