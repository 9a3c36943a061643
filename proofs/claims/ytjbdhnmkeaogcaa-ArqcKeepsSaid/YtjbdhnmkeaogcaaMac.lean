/- Codes of texts: the last block of a chained text. -/
import Derived.Test.YtjbdhnmkeaogcaaChd
set_option linter.unusedVariables false
set_option linter.unusedSimpArgs false
namespace Lk
open Go Go.RowKit
/-- the last block of a text that is chained from zeros -/
def pchain (kind : Nat) (key text : List UInt8) (m : Nat) : List UInt8 := (chTo kind key (List.replicate (psize kind) 0) text m).2
theorem chTo_drop (kind : Nat) (key start text : List UInt8) (m : Nat) (hk : kind = 1 ∨ kind = 2) (hm : 0 < m) : ((chTo kind key start text m).1).drop (psize kind * (m - 1)) = (chTo kind key start text m).2 := by
  obtain ⟨k, rfl⟩ : ∃ k, m = k + 1 := ⟨m - 1, by omega⟩
  simp only [chTo, Nat.add_sub_cancel]
  rw [List.drop_left' (chTo_len kind key start text k hk)]
end Lk
namespace Go.Proofs.Ytjbdhnmkeaogcaa
open Go.RowKit Lk
theorem Chained_any (q vt vs : Value) (B m kind : Nat) (key start text : List UInt8) (w : World) (hk : kind = 1 ∨ kind = 2) (h : Cip w B q kind key) (hB : B ≤ w.heap.size) (hf : pfits kind key.length = true) (hs : SlB w vt text) (ht : text.length = psize kind * m) (hm : 0 < m) (hmx : m ≤ 100000)
    (hv : SlB w vs start) (hl : start.length = psize kind) :
    Calls Try.prog 47 #[q, vs, vt, .bool false] w fun e w' =>
      ∃ v, e = .returned (.tuple #[v, .nilIface]) ∧ Own w' w.heap.size v (chTo kind key start text m).1 ∧ Below w.heap.size w w' := by
  rcases hk with rfl | rfl
  · exact Chained1 q vt vs B m key start text w h hB hf hs ht hm hmx hv hl
  · exact Chained2 q vt vs B m key start text w h hB hf hs ht hm hmx hv hl
set_option maxHeartbeats 1600000 in
set_option maxRecDepth 100000 in
theorem chain_any (q vt : Value) (B m kind : Nat) (key text : List UInt8) (w : World) (hk : kind = 1 ∨ kind = 2) (h : Cip w B q kind key) (hB : B ≤ w.heap.size) (hf : pfits kind key.length = true) (hs : SlB w vt text) (ht : text.length = psize kind * m) (hm : 0 < m) (hmx : m ≤ 100000) :
    Calls Try.prog 36 #[q, vt] w fun e w' =>
      ∃ v, e = .returned (.tuple #[v, .nilIface]) ∧ SlB w' v (pchain kind key text m) ∧ (∀ k, v.ownBlock = some k → w.heap.size ≤ k) ∧ Below w.heap.size w w' := by
  obtain ⟨n, hn⟩ : ∃ n, w.heap.size = n := ⟨_, rfl⟩
  have Hn := Lib.hid hn
  have HS := Lib.hid (fun (w' : World) (hw' : Below n w w') => Size_any q kind B key w' (h.below hw' (by omega)))
  have hps := psize_le kind
  have hsb : ∀ k, vt.ownBlock = some k → k < n := by
    obtain ⟨A, c, rfl, _, hlc, _, hr⟩ := hs
    have h0 : 0 < text.length := by rw [ht]; rcases hps with e | e <;> rw [e] <;> omega
    obtain ⟨g, o, rfl, hrd⟩ := hr (by omega)
    intro k hk
    have : g = k := by simpa [Value.ownBlock] using hk
    rw [← this, ← hn]; exact block_of_cell (hrd 0 h0)
  have HCh := Lib.hid (fun (w' : World) (vs : Value) (hw' : Below n w w') (hv : SlB w' vs (List.replicate (psize kind) 0)) => Chained_any q vt vs B m kind key (List.replicate (psize kind) 0) text w' hk (h.below hw' (by omega)) (Nat.le_trans hB (by have := hw'.size; omega)) hf (hs.under hw' hsb) ht hm hmx hv (List.length_replicate ..))
  have hcl := chTo_len kind key (List.replicate (psize kind) 0) text m hk
  have hdr := chTo_drop kind key (List.replicate (psize kind) 0) text m hk hm
  obtain ⟨out, eo⟩ : ∃ out, (chTo kind key (List.replicate (psize kind) 0) text m).1 = out := ⟨_, rfl⟩
  rw [eo] at hcl hdr
  simp only [eo] at HCh
  have hvt : ∃ A l c, vt = .slice A l c := by obtain ⟨A, c, e, _⟩ := hs; exact ⟨A, _, c, e⟩
  obtain ⟨At, lt, ct, rfl⟩ := hvt
  obtain ⟨sz, es⟩ : ∃ sz, psize kind = sz := ⟨_, rfl⟩
  rw [es] at hps hcl hdr ht
  have hol : sz ≤ out.length := by rw [hcl]; exact Nat.le_mul_of_pos_right _ hm
  have hsub : out.length - sz = sz * (m - 1) := by rw [hcl]; cases m with
    | zero => omega
    | succ k => rw [Nat.mul_succ]; simp
  have hob : out.length ≤ 1600000 := by rw [hcl]; rcases hps with e | e <;> rw [e] <;> omega
  have h0z : 0 < sz := by rcases hps with e | e <;> omega
  clear hcl hps ht
  have HDR := Lib.hid hdr
  have HSUB := Lib.hid hsub
  have ES := Lib.hid es
  clear h hs hdr hsub
  go_enter Try.func36, Try.ntmps36
  go_wp2_with (first
    | (go_at_call 32; refine (HS.out _ (Below.refl n w)).mono ?_; rintro e w9 ⟨rfl, h9⟩; rw [h9, ES.out]; clear h9 w9)
    | (refine make_new rfl 22 5 _ _ rfl sz (by kernel_rfl) (by kernel_rfl) .i64 .i64 rfl rfl (by omega) ?_; intro w1 hB1 hG1 hs1; have hL1 : Below n w w1 := below_none (Below.refl n w) (by omega) hG1; have hsv : SlB w1 (.slice (some ⟨n, 0, none⟩) sz sz) (List.replicate (psize kind) 0) := by {
        rw [ES.out]
        rw [hn] at hB1
        exact New.slB ⟨n, _, by rw [List.length_replicate], Nat.zero_le _, hB1⟩ (by rw [List.length_replicate]; unfold maxLen; omega) })
    | (go_at_call 47; refine (HCh.out w1 (.slice (some ⟨n, 0, none⟩) sz sz) hL1 hsv).mono ?_; rintro e w2 ⟨v2, rfl, hO2, hL2⟩; have HO2 := Lib.hid hO2; obtain ⟨g2, c2, rfl, hg2, hg2', hrd2, _, hc2⟩ := hO2.form (by omega))
    | (go_at_call 32; refine (HS.out w2 (below_more hL1 hL2 (by omega))).mono ?_; rintro e w9 ⟨rfl, h9⟩; rw [h9, ES.out]; clear h9 w9))
  go_ret2
  have hp : pchain kind key text m = (out.drop (out.length - sz)).take sz := by
    rw [List.take_of_length_le (by rw [List.length_drop]; omega), HSUB.out, ← ES.out]
    have := HDR.out
    rw [← ES.out] at this
    exact this.symm
  have hpl : (pchain kind key text m).length = out.length - (out.length - sz) := by rw [hp, List.length_take, List.length_drop]; omega
  have hrd3 := Rd.sub hrd2 (out.length - sz) sz (by omega)
  rw [Nat.zero_add, ← hp] at hrd3
  have l1 := hL1.size
  refine ⟨_, rfl, ⟨some ⟨g2, out.length - sz, none⟩, c2 - (out.length - sz), by rw [hpl]; rfl, fun h => (by cases h), by omega, by have := HO2.out.slB; obtain ⟨_, c, e, _, _, hc, _⟩ := this; cases e; omega, fun _ => ⟨g2, _, rfl, hrd3⟩⟩, ?_, ?_⟩
  · intro k hk
    have : g2 = k := by simpa [Value.ownBlock] using hk
    omega
  · rw [hn]; exact below_more hL1 hL2 (by omega)
end Go.Proofs.Ytjbdhnmkeaogcaa
