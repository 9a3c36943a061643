/- slices.Grow and slices.Concat of bytes. -/
import Derived.Test.YtjbdhnmkeaogcaaArqc
set_option linter.unusedVariables false
set_option linter.unusedSimpArgs false
namespace Lk
open Go Go.RowKit
theorem zeroCells_u8 (n : Nat) : Builtin.zeroCells (Value.int .u8 0).cells n = Bs (List.replicate n 0) := by
  apply Array.ext
  · simp [Builtin.zeroCells, Bs, Value.cells]
  · intro i h1 h2
    simp [Builtin.zeroCells, Bs, Value.cells, Nat.mod_one, bv]
theorem Bs_app (l m : List UInt8) : Bs l ++ Bs m = Bs (l ++ m) := by simp [Bs]
section
variable {P : Program} {ops : Array Oper} {rest : List Oper} {o : Oper} {a : Act} {w : World} {Q : Exit → Act → World → Prop}
/-- append(nil, make([]byte, n)...), n above 0 -/
theorem run_append_made (w : World) (t ti ty e : TypeId) (i : TypeInfo) (kd : IntKind) (ht : P.underlying t = some (.slice e)) (hti : P.underlying ti = some (.int kd)) (hi : P.info? e = some i) (hz : i.zero = some (.int .u8 0)) (hs : i.size = 1) (hb : i.bytes = 1)
    (n : Nat) (h0 : 0 < n) (h1 : n ≤ 1000000) (hzv : ∀ w : World, (zeroValue e).run P w = .ok (.int .u8 0) w) :
    ∃ cap, (Builtin.append_ #[t, ti] ty #[.slice none 0 0, .int .i64 n]).run P w = .ok (.slice (some ⟨w.heap.size, 0, none⟩) n cap) (w.drew.alloc (.cells (Bs (List.replicate cap 0)) e)) ∧ n ≤ cap ∧ cap ≤ maxLen := by
  refine ⟨grownCap w n 0 e, ?_, grownCap_ge w n 0 e, grownCap_le_maxLen w n 0 e (by unfold maxLen; omega)⟩
  have hw : IntKind.i64.wrap (n : Int) = n := wrap_i64 n (by omega)
  have e1 : ¬ ((n : Int) < 0) := by omega
  have e2 : ¬ (281474976710656 < (n : Int)) := by omega
  have e3 : ¬ n = 0 := by omega
  have e4 : ¬ (9223372036854775807 < (n : Int)) := by omega
  have e5 : ¬ (281474976710656 < Builtin.nextslicecap n 0) := by rw [nextslicecap_zero h0]; omega
  have ha : ∀ w, (asIntOf (.int .i64 (n : Int))).run P w = .ok (.i64, (n : Int)) w := fun _ => rfl
  have e6 : ¬ ((n : Int) ≤ 0) := by omega
  have e7 : max (n : Int) 0 = n := by omega
  simp [Builtin.append_, run_underlying ht, run_underlying hti, Go.sizeOf, typeInfo, hi, hs, hb, hz, hw, hzv, asInt, ha, e6, e7, e1, e2, e3, e4, e5, Question.forced, run_firstCells_none, newRow, grownCap]
  rw [zeroCells_u8, zeroCells_u8, Bs_app, List.replicate_append_replicate]
  have := grownCap_ge w n 0 e
  unfold grownCap at this
  rw [Nat.add_sub_cancel' this]
theorem append_made (hgd : o.guard = none) (s x : Operand) (t ti e : TypeId) (ho : o.op = .call { callee := .builtin .append, args := #[s, x], argTypes := #[t, ti] }) (i : TypeInfo) (kd : IntKind) (ht : P.underlying t = some (.slice e)) (hti : P.underlying ti = some (.int kd)) (hi : P.info? e = some i) (hz : i.zero = some (.int .u8 0)) (hs : i.size = 1) (hb : i.bytes = 1)
    (n : Nat) (h0 : 0 < n) (h1 : n ≤ 1000000) (hzv : ∀ w : World, (zeroValue e).run P w = .ok (.int .u8 0) w) (hx : a.eval s = .slice none 0 0) (hy : a.eval x = .int .i64 n)
    (h : ∀ cap w1, n ≤ cap → cap ≤ maxLen → Blk w1 w.heap.size e (List.replicate cap 0) → w.grownBy w1 none → w1.heap.size = w.heap.size + 1 → wpList P ops Q rest (a.put o.dst (.slice (some ⟨w.heap.size, 0, none⟩) n cap)) w1) : wpList P ops Q (o :: rest) a w :=
  wpList_plain hgd fun _ hK => by
    obtain ⟨cap, hr, h2, h3⟩ := run_append_made (P := P) w t ti o.type e i kd ht hti hi hz hs hb n h0 h1 hzv
    unfold Oper.wp execOp
    simp only [ho, resolve, invoke, builtin, Sem.run_bind, Sem.run_pure, Result.andThen_ok, List.map_toArray, List.map_cons, List.map_nil, hx, hy, hr]
    exact hK _ _ (h cap _ h2 h3 (heap_alloc_new w.drew _) (grown_alloc (grown_drew (grown_refl w none)) _) (by show (w.heap.push _).size = _; simp))
end
/-- an owned slice of no length, of room -/
theorem own_room {w : World} {g cap base : Nat} (hB : Blk w g u8t (List.replicate cap 0)) (hc : cap ≤ maxLen) (hb : base ≤ g) : Own w base (.slice (some ⟨g, 0, none⟩) 0 cap) [] :=
  ⟨rfl, .inr ⟨g, cap, _, rfl, hb, hB, Nat.zero_le _, hc, by rw [Bs_size, List.length_replicate, Nat.mul_one], by simp [Bl]⟩⟩
end Lk
namespace Go.Proofs.Ytjbdhnmkeaogcaa
open Go.RowKit Lk
set_option maxHeartbeats 800000 in
set_option maxRecDepth 100000 in
theorem Grow_nil (n : Nat) (w : World) (h0 : 0 < n) (h1 : n ≤ 1000000) :
    Calls Try.prog 49 #[.slice none 0 0, .int .i64 n] w fun e w' => ∃ v, e = .returned v ∧ Own w' w.heap.size v [] ∧ Below w.heap.size w w' := by
  obtain ⟨i, hi, hz, hs, hb⟩ := info_parts hu_u8
  have i0 : (0 : Int) < (n : Int) := by omega
  go_enter Try.func49, Try.ntmps49
  go_wp2_with (refine append_made rfl _ _ 22 3 5 rfl i .i64 (by kernel_rfl) (by kernel_rfl) hi hz hs hb n h0 h1 (fun _ => by kernel_rfl) (by rfl) (by rfl) ?_; intro cap w1 hc1 hc2 hB hG hs1; have hci : (0 : Int) ≤ (cap : Int) := (by omega))
  go_ret
  exact ⟨_, rfl, own_room hB hc2 (Nat.le_refl _), below_of_grown hG⟩
set_option maxHeartbeats 1600000 in
set_option maxRecDepth 100000 in
theorem Concat3 (g : Nat) (v1 v2 v3 : Value) (l1 l2 l3 : List UInt8) (w : World) (c1 : w.cell? ⟨g, 0, none⟩ = some v1) (c2 : w.cell? ⟨g, 1, none⟩ = some v2) (c3 : w.cell? ⟨g, 2, none⟩ = some v3)
    (h1 : SlB w v1 l1) (h2 : SlB w v2 l2) (h3 : SlB w v3 l3) (m1 : l1.length ≤ 1000) (m2 : l2.length ≤ 1000) (m3 : l3.length ≤ 1000) (hp : 0 < l1.length) :
    Calls Try.prog 41 #[.slice (some ⟨g, 0, none⟩) 3 3] w fun e w' => ∃ v, e = .returned v ∧ Own w' w.heap.size v (l1 ++ l2 ++ l3) ∧ Below w.heap.size w w' := by
  obtain ⟨N, hN⟩ : ∃ N, w.heap.size = N := ⟨_, rfl⟩
  have HN := Lib.hid hN
  have hg : g < N := by rw [← hN]; exact block_of_cell c1
  obtain ⟨L1, e1⟩ : ∃ L, l1.length = L := ⟨_, rfl⟩
  obtain ⟨L2, e2⟩ : ∃ L, l2.length = L := ⟨_, rfl⟩
  obtain ⟨L3, e3⟩ : ∃ L, l3.length = L := ⟨_, rfl⟩
  obtain ⟨A1, k1, rfl⟩ := h1.form e1
  obtain ⟨A2, k2, rfl⟩ := h2.form e2
  obtain ⟨A3, k3, rfl⟩ := h3.form e3
  have E1 := Lib.hid e1
  have E2 := Lib.hid e2
  have E3 := Lib.hid e3
  have H1 := Lib.hid (fun (w' : World) (hw' : Below N w w') => h1.below (by rw [hN]; exact hw'))
  have H2 := Lib.hid (fun (w' : World) (hw' : Below N w w') => h2.below (by rw [hN]; exact hw'))
  have H3 := Lib.hid (fun (w' : World) (hw' : Below N w w') => h3.below (by rw [hN]; exact hw'))
  have HC1 := Lib.hid c1
  have HC2 := Lib.hid c2
  have HC3 := Lib.hid c3
  rw [e1] at m1 hp
  rw [e2] at m2
  rw [e3] at m3
  clear h1 h2 h3 e1 e2 e3
  go_enter Try.func41, Try.ntmps41
  go_wp2_with fail
  go_loop [3, 11] (fun n i => ∃ (k t : Nat), i = .int .i64 k ∧ n = .int .i64 t ∧ ((k = 0 ∧ t = 0) ∨ (k = 1 ∧ t = L1) ∨ (k = 2 ∧ t = L1 + L2) ∨ (k = 3 ∧ t = L1 + L2 + L3))) (fun _ i => 3 - (intOf i).toNat)
  case atStart => exact ⟨0, 0, rfl, rfl, .inl ⟨rfl, rfl⟩⟩
  case round =>
    obtain ⟨k, t, rfl, rfl, hk⟩ := hrel
    have ht : t ≤ 3000 := by omega
    rcases hk with ⟨rfl, hk⟩ | ⟨rfl, hk⟩ | ⟨rfl, hk⟩ | ⟨rfl, hk⟩
    · have HK := Lib.hid hk
      clear hk
      go_wp2
      go_round
      case rel => exact ⟨1, t + L1, by go_num, by go_num, .inr (.inl ⟨rfl, by have := HK.out; omega⟩)⟩
      case measure => simp [intOf]
    · have HK := Lib.hid hk
      clear hk
      go_wp2
      go_round
      case rel => exact ⟨2, t + L2, by go_num, by go_num, .inr (.inr (.inl ⟨rfl, by have := HK.out; omega⟩))⟩
      case measure => simp [intOf]
    · have HK := Lib.hid hk
      clear hk
      go_wp2
      go_round
      case rel => exact ⟨3, t + L3, by go_num, by go_num, .inr (.inr (.inr ⟨rfl, by have := HK.out; omega⟩))⟩
      case measure => simp [intOf]
    · have ht0 : 0 < t := by omega
      clear hk c1 c2 c3
      go_wp2_with fail
      refine (Grow_nil t w ht0 (by omega)).mono ?_
      rintro e w1 ⟨v, rfl, hO, hL⟩
      rw [hN] at hO hL
      have HO := Lib.hid hO
      have HL := Lib.hid hL
      clear hO hL
      go_wp2_with fail
      go_loopw [6, 27] (fun o i wr => ∃ (k : Nat) (vo : Value) (l : List UInt8), i = .int .i64 k ∧ vo = o ∧ Own wr N vo l ∧ Below N w wr ∧ l.length ≤ 3000 ∧ ((k = 0 ∧ l = []) ∨ (k = 1 ∧ l = l1) ∨ (k = 2 ∧ l = l1 ++ l2) ∨ (k = 3 ∧ l = l1 ++ l2 ++ l3))) (fun _ i _ => 3 - (intOf i).toNat)
      case atStart => exact ⟨0, _, [], rfl, rfl, HO.out, HL.out, by decide, .inl ⟨rfl, rfl⟩⟩
      case round =>
        clear HO HL
        obtain ⟨k, o, l, rfl, ho0, hO, hL, hll, hk⟩ := hrel
        subst ho0
        have HO := Lib.hid hO
        have HL := Lib.hid hL
        have d1 := cell_below HC1.out hL hg
        have d2 := cell_below HC2.out hL hg
        have d3 := cell_below HC3.out hL hg
        have hwsz := hL.size
        rw [HN.out] at hwsz
        clear hO hL
        rcases hk with ⟨rfl, hk⟩ | ⟨rfl, hk⟩ | ⟨rfl, hk⟩ | ⟨rfl, hk⟩
        · have HK := Lib.hid hk
          clear hk
          go_wp2_with (at_builtin; refine append_b hu_sl hu_u8 rfl _ _ rfl N _ l (by rfl) HO.out _ l1 (by rfl) (H1.out wr HL.out) (by rw [E1.out]; omega) hwsz ?_; intro v2 w2 hO2 hG2; have HO2 := Lib.hid hO2; have HL2 := Lib.hid (below_own HL.out hwsz hG2 (fun k hk => (HO.out.lt k hk).1)); clear hO2 hG2)
          go_roundw
          case rel => exact ⟨1, _, _, by go_num, rfl, HO2.out, HL2.out, by rw [List.length_append, E1.out, HK.out]; simp; omega, .inr (.inl ⟨rfl, by rw [HK.out]; rfl⟩)⟩
          case measure => simp [intOf]
        · have HK := Lib.hid hk
          clear hk
          go_wp2_with (at_builtin; refine append_b hu_sl hu_u8 rfl _ _ rfl N _ l (by rfl) HO.out _ l2 (by rfl) (H2.out wr HL.out) (by rw [E2.out]; omega) hwsz ?_; intro v2 w2 hO2 hG2; have HO2 := Lib.hid hO2; have HL2 := Lib.hid (below_own HL.out hwsz hG2 (fun k hk => (HO.out.lt k hk).1)); clear hO2 hG2)
          go_roundw
          case rel => exact ⟨2, _, _, by go_num, rfl, HO2.out, HL2.out, by rw [List.length_append, E2.out, HK.out, E1.out]; omega, .inr (.inr (.inl ⟨rfl, by rw [HK.out]⟩))⟩
          case measure => simp [intOf]
        · have HK := Lib.hid hk
          clear hk
          go_wp2_with (at_builtin; refine append_b hu_sl hu_u8 rfl _ _ rfl N _ l (by rfl) HO.out _ l3 (by rfl) (H3.out wr HL.out) (by rw [E3.out]; omega) hwsz ?_; intro v2 w2 hO2 hG2; have HO2 := Lib.hid hO2; have HL2 := Lib.hid (below_own HL.out hwsz hG2 (fun k hk => (HO.out.lt k hk).1)); clear hO2 hG2)
          go_roundw
          case rel => exact ⟨3, _, _, by go_num, rfl, HO2.out, HL2.out, by rw [List.length_append, E3.out, HK.out, List.length_append, E1.out, E2.out]; omega, .inr (.inr (.inr ⟨rfl, by rw [HK.out]⟩))⟩
          case measure => simp [intOf]
        · have HK := Lib.hid hk
          clear hk
          go_wp2
          go_ret
          exact ⟨_, rfl, by rw [HN.out, ← HK.out]; exact HO.out, by rw [HN.out]; exact HL.out⟩
end Go.Proofs.Ytjbdhnmkeaogcaa
