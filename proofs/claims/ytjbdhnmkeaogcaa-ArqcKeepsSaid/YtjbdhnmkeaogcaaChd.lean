/- A chained text. -/
import Derived.Test.YtjbdhnmkeaogcaaEach
set_option linter.unusedVariables false
set_option linter.unusedSimpArgs false
namespace Lk
open Go Go.RowKit
section
variable {P : Program} {ops : Array Oper} {rest : List Oper} {o : Oper} {a : Act} {w : World} {Q : Exit → Act → World → Prop}
theorem box_one (hgd : o.guard = none) (ty : TypeId) (x : Operand) (ho : o.op = .box ty x) (u : Value) (hx : a.eval x = u) (hu : u.cells = #[u])
    (h : ∀ w1, One w1 w.heap.size ty u → w.grownBy w1 none → w1.heap.size = w.heap.size + 1 → wpList P ops Q rest (a.put o.dst (.pointer (some ⟨w.heap.size, 0, none⟩))) w1) : wpList P ops Q (o :: rest) a w :=
  wpList_plain hgd fun _ hK => by
    unfold Oper.wp execOp
    simp only [ho, Sem.run_bind, hx, run_box ty _ w, Result.andThen_ok]
    refine hK _ _ (h _ ?_ (grown_alloc (grown_refl w none) _) (by show (w.heap.push _).size = _; simp))
    unfold One
    rw [← hu]; exact heap_alloc_new w _
theorem alloc_one (hgd : o.guard = none) (ty : TypeId) (ho : o.op = .alloc ty) (z : Value) (hz : ∀ w : World, (zeroValue ty).run P w = .ok z w) (hu : z.cells = #[z])
    (h : ∀ w1, One w1 w.heap.size ty z → w.grownBy w1 none → w1.heap.size = w.heap.size + 1 → wpList P ops Q rest (a.put o.dst (.pointer (some ⟨w.heap.size, 0, none⟩))) w1) : wpList P ops Q (o :: rest) a w :=
  wpList_plain hgd fun _ hK => by
    unfold Oper.wp execOp
    simp only [ho, Sem.run_bind, run_alloc ty z w hz, Result.andThen_ok]
    refine hK _ _ (h _ ?_ (grown_alloc (grown_refl w none) _) (by show (w.heap.push _).size = _; simp))
    unfold One
    rw [← hu]; exact heap_alloc_new w _
theorem store_one (hgd : o.guard = none) (ty : TypeId) (x y : Operand) (ho : o.op = .store ty x y) (g T : Nat) (v u : Value) (hx : a.eval x = .pointer (some ⟨g, 0, none⟩)) (hy : a.eval y = u) (h1 : u.oneCell' = true) (hO : One w g T v) (hi : (P.info? ty).map (·.size) = some 1)
    (h : ∀ w1, One w1 g T u → w.grownBy w1 (some g) → w1.heap.size = w.heap.size → wpList P ops Q rest (a.put o.dst undef) w1) : wpList P ops Q (o :: rest) a w := by
  subst hy
  refine wpList_store_one hgd ty x y ho g hx h1 T v hO hi (h _ ?_ ?_ (size_setRow w g _))
  · exact setRow_heap w g _ _ T _ hO
  · exact ⟨rfl, rfl, rfl, Nat.le_of_eq (size_setRow w g _).symm, fun i hi hr => setRow_other w g i _ (by rintro rfl; exact hr rfl)⟩
end
end Lk
namespace Go.Proofs.Ytjbdhnmkeaogcaa
open Go.RowKit Lk
set_option maxHeartbeats 1600000 in
set_option maxRecDepth 100000 in
theorem Chained2 (q vt vs : Value) (B m : Nat) (key start text : List UInt8) (w : World) (h : Cip w B q 2 key) (hB : B ≤ w.heap.size) (hf : pfits 2 key.length = true) (hs : SlB w vt text) (ht : text.length = 8 * m) (hm : 0 < m) (hmx : m ≤ 100000)
    (hv : SlB w vs start) (hl : start.length = 8) :
    Calls Try.prog 47 #[q, vs, vt, .bool false] w fun e w' =>
      ∃ v, e = .returned (.tuple #[v, .nilIface]) ∧ Own w' w.heap.size v (chTo 2 key start text m).1 ∧ Below w.heap.size w w' := by
  obtain ⟨n, hn⟩ : ∃ n, w.heap.size = n := ⟨_, rfl⟩
  have Hn := Lib.hid hn
  have HC := Lib.hid h
  have HS := Lib.hid (fun (w' : World) (hw' : Below n w w') => Size_any q 2 B key w' (h.below hw' (by omega)))
  have HT := Lib.hid hs
  have HV := Lib.hid hv
  have hq : ∃ gq, q = .pointer (some ⟨gq, 0, none⟩) := by obtain ⟨gq, _, _, e, _⟩ := h; exact ⟨gq, e⟩
  obtain ⟨gq, rfl⟩ := hq
  have hvs : ∃ A c, vs = .slice A 8 c := by obtain ⟨A, c, e, _⟩ := hv; exact ⟨A, c, by rw [e, hl]⟩
  obtain ⟨As, cs, rfl⟩ := hvs
  have hvt : ∃ gt ot c, vt = .slice (some ⟨gt, ot, none⟩) (8 * m) c ∧ gt < n := by
    obtain ⟨A, c, e, _, _, _, hr⟩ := hs
    obtain ⟨g, o, rfl, hrd⟩ := hr (by omega)
    exact ⟨g, o, c, by rw [e, ht], by rw [← hn]; exact block_of_cell (hrd 0 (by omega))⟩
  obtain ⟨gt, ot, ct, rfl, hgt⟩ := hvt
  have HE := Lib.hid (fun (w' : World) (vl0 : Value) g1 g2 g3 start => each2 (.pointer (some ⟨gq, 0, none⟩)) (.slice (some ⟨gt, ot, none⟩) (8 * m) ct) vl0 B g1 g2 g3 m key start text w')
  have HVB := Lib.hid (show ∀ k, (Value.slice As 8 cs).ownBlock = some k → k < n from fun k hk => by
    obtain ⟨A, c, e, _, hlc, _, hr⟩ := hv
    obtain ⟨g, o, rfl, hrd⟩ := hr (by omega)
    rw [e] at hk
    have : g = k := by simpa [Value.ownBlock] using hk
    rw [← this, ← hn]; exact block_of_cell (hrd 0 (by omega)))
  clear h hs hv
  go_enter Try.func47, Try.ntmps47
  go_wp2_with (first
    | ((with_reducible show wpList _ _ _ _ _ w); refine box_one (w := w) rfl 25 _ rfl (.pointer (some ⟨gq, 0, none⟩)) rfl rfl ?_; intro w0 h20 hG0 hs0)
    | ((with_reducible show wpList _ _ _ _ _ w0); refine box_one (w := w0) rfl 4 _ rfl (.bool false) rfl rfl ?_; intro w1 h11 hG1 hs1; have hL1 : Below n w w1 := below_none (below_none (Below.refl n w) (by omega) hG0) (by omega) hG1; have h21 := h20.old hG1 (by simp); have c21 := h21.cell; rw [hn] at c21)
    | (go_at_call 32; refine (HS.out w1 hL1).mono ?_; rintro e w9 ⟨rfl, rfl⟩; rw [show psize 2 = 8 from rfl])
    | (refine alloc_one rfl 22 rfl (.slice none 0 0) (fun _ => by kernel_rfl) rfl ?_; intro w2 h32 hG2 hs2)
    | ((with_reducible show wpList _ _ _ _ _ w2); refine store_one (w := w2) rfl 22 _ _ rfl _ 22 _ _ rfl rfl rfl h32 (by kernel_rfl) ?_; intro w3 h33 hG3 hs3; have q9 : w9.heap.size = n + 1 + 1 := (by omega); have q0 : w0.heap.size = n + 1 := (by omega); rw [q9] at h33 hG3; rw [q0] at h11; rw [hn] at h21; have hL3 : Below n w w3 := below_new (below_none hL1 (by omega) hG2) (by omega) hG3 (by omega); have h23 := (h21.old hG2 (by simp)).old hG3 (by simp <;> omega); have h13 := (h11.old hG2 (by simp)).old hG3 (by simp <;> omega); have c23 := h23.cell)
    | (go_at_call 69; refine (HE.out w3 (.slice As 8 cs) (n + 1) n (n + 1 + 1) start (HC.out.below hL3 (by omega)) (by omega) hf (HT.out.under hL3 (fun k hk => by have : gt = k := (by simpa [Value.ownBlock] using hk); omega)) ht hm hmx (fun j hj => by have : gt = j := (by simpa [Value.ownBlock] using hj); omega) (HV.out.under hL3 HVB.out) hl h13 (by omega) h23 (by omega) h33).mono ?_; rintro e w4 ⟨v4, rfl, hO4, hG4⟩))
  go_ret2
  have l3 := hL3.size
  refine ⟨_, rfl, hO4.lower l3, ?_⟩
  rw [hn]
  exact below_new hL3 (by omega) hG4 (by omega)
set_option maxHeartbeats 1600000 in
set_option maxRecDepth 100000 in
theorem Chained1 (q vt vs : Value) (B m : Nat) (key start text : List UInt8) (w : World) (h : Cip w B q 1 key) (hB : B ≤ w.heap.size) (hf : pfits 1 key.length = true) (hs : SlB w vt text) (ht : text.length = 16 * m) (hm : 0 < m) (hmx : m ≤ 100000)
    (hv : SlB w vs start) (hl : start.length = 16) :
    Calls Try.prog 47 #[q, vs, vt, .bool false] w fun e w' =>
      ∃ v, e = .returned (.tuple #[v, .nilIface]) ∧ Own w' w.heap.size v (chTo 1 key start text m).1 ∧ Below w.heap.size w w' := by
  obtain ⟨n, hn⟩ : ∃ n, w.heap.size = n := ⟨_, rfl⟩
  have Hn := Lib.hid hn
  have HC := Lib.hid h
  have HS := Lib.hid (fun (w' : World) (hw' : Below n w w') => Size_any q 1 B key w' (h.below hw' (by omega)))
  have HT := Lib.hid hs
  have HV := Lib.hid hv
  have hq : ∃ gq, q = .pointer (some ⟨gq, 0, none⟩) := by obtain ⟨gq, _, _, e, _⟩ := h; exact ⟨gq, e⟩
  obtain ⟨gq, rfl⟩ := hq
  have hvs : ∃ A c, vs = .slice A 16 c := by obtain ⟨A, c, e, _⟩ := hv; exact ⟨A, c, by rw [e, hl]⟩
  obtain ⟨As, cs, rfl⟩ := hvs
  have hvt : ∃ gt ot c, vt = .slice (some ⟨gt, ot, none⟩) (16 * m) c ∧ gt < n := by
    obtain ⟨A, c, e, _, _, _, hr⟩ := hs
    obtain ⟨g, o, rfl, hrd⟩ := hr (by omega)
    exact ⟨g, o, c, by rw [e, ht], by rw [← hn]; exact block_of_cell (hrd 0 (by omega))⟩
  obtain ⟨gt, ot, ct, rfl, hgt⟩ := hvt
  have HE := Lib.hid (fun (w' : World) (vl0 : Value) g1 g2 g3 start => each1 (.pointer (some ⟨gq, 0, none⟩)) (.slice (some ⟨gt, ot, none⟩) (16 * m) ct) vl0 B g1 g2 g3 m key start text w')
  have HVB := Lib.hid (show ∀ k, (Value.slice As 16 cs).ownBlock = some k → k < n from fun k hk => by
    obtain ⟨A, c, e, _, hlc, _, hr⟩ := hv
    obtain ⟨g, o, rfl, hrd⟩ := hr (by omega)
    rw [e] at hk
    have : g = k := by simpa [Value.ownBlock] using hk
    rw [← this, ← hn]; exact block_of_cell (hrd 0 (by omega)))
  clear h hs hv
  go_enter Try.func47, Try.ntmps47
  go_wp2_with (first
    | ((with_reducible show wpList _ _ _ _ _ w); refine box_one (w := w) rfl 25 _ rfl (.pointer (some ⟨gq, 0, none⟩)) rfl rfl ?_; intro w0 h20 hG0 hs0)
    | ((with_reducible show wpList _ _ _ _ _ w0); refine box_one (w := w0) rfl 4 _ rfl (.bool false) rfl rfl ?_; intro w1 h11 hG1 hs1; have hL1 : Below n w w1 := below_none (below_none (Below.refl n w) (by omega) hG0) (by omega) hG1; have h21 := h20.old hG1 (by simp); have c21 := h21.cell; rw [hn] at c21)
    | (go_at_call 32; refine (HS.out w1 hL1).mono ?_; rintro e w9 ⟨rfl, rfl⟩; rw [show psize 1 = 16 from rfl])
    | (refine alloc_one rfl 22 rfl (.slice none 0 0) (fun _ => by kernel_rfl) rfl ?_; intro w2 h32 hG2 hs2)
    | ((with_reducible show wpList _ _ _ _ _ w2); refine store_one (w := w2) rfl 22 _ _ rfl _ 22 _ _ rfl rfl rfl h32 (by kernel_rfl) ?_; intro w3 h33 hG3 hs3; have q9 : w9.heap.size = n + 1 + 1 := (by omega); have q0 : w0.heap.size = n + 1 := (by omega); rw [q9] at h33 hG3; rw [q0] at h11; rw [hn] at h21; have hL3 : Below n w w3 := below_new (below_none hL1 (by omega) hG2) (by omega) hG3 (by omega); have h23 := (h21.old hG2 (by simp)).old hG3 (by simp <;> omega); have h13 := (h11.old hG2 (by simp)).old hG3 (by simp <;> omega); have c23 := h23.cell)
    | (go_at_call 69; refine (HE.out w3 (.slice As 16 cs) (n + 1) n (n + 1 + 1) start (HC.out.below hL3 (by omega)) (by omega) hf (HT.out.under hL3 (fun k hk => by have : gt = k := (by simpa [Value.ownBlock] using hk); omega)) ht hm hmx (fun j hj => by have : gt = j := (by simpa [Value.ownBlock] using hj); omega) (HV.out.under hL3 HVB.out) hl h13 (by omega) h23 (by omega) h33).mono ?_; rintro e w4 ⟨v4, rfl, hO4, hG4⟩))
  go_ret2
  have l3 := hL3.size
  refine ⟨_, rfl, hO4.lower l3, ?_⟩
  rw [hn]
  exact below_new hL3 (by omega) hG4 (by omega)
end Go.Proofs.Ytjbdhnmkeaogcaa
