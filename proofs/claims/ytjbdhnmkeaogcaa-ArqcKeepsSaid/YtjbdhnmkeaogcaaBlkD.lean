/- Block ciphers: Do. -/
import Derived.Test.YtjbdhnmkeaogcaaBlkW
set_option linter.unusedVariables false
set_option linter.unusedSimpArgs false
namespace Lk
open Go Go.RowKit
theorem ptriple_len (key b : List UInt8) (back : Bool) : (ptriple key b back).length = 8 := by
  unfold ptriple
  split
  · exact dblock_len _ _ _
  · cases back <;> exact dblock_len _ _ _
theorem pdo_len (kind : Nat) (key b : List UInt8) (back : Bool) (hk : kind = 1 ∨ kind = 2) : (pdo kind key b back).length = psize kind := by
  rcases hk with rfl | rfl
  · cases back
    · exact encTo_len _ _ _ _
    · exact pwith_len _ _ _
  · exact ptriple_len _ _ _
theorem pfits_8 {n : Nat} (h : pfits 2 n = true) : n = 8 ∨ n = 16 ∨ n = 24 := by simpa [pfits, or_assoc] using h
theorem okParts_of {key : List UInt8} (h : pfits 2 key.length = true) : okParts key = true := by
  rcases pfits_8 h with h | h | h <;> simp [okParts, h]
/-- a slice of a whole new row of bytes -/
def New (w : World) (base : Nat) (v : Value) (l : List UInt8) : Prop := ∃ g T, v = .slice (some ⟨g, 0, none⟩) l.length l.length ∧ base ≤ g ∧ Blk w g T l
theorem New.slB {w : World} {base : Nat} {v : Value} {l : List UInt8} (h : New w base v l) (hl : l.length ≤ maxLen) : SlB w v l := by
  obtain ⟨g, T, rfl, hb, hB⟩ := h
  refine ⟨_, _, rfl, fun h => (by cases h), Nat.le_refl _, hl, fun _ => ⟨g, 0, rfl, fun k hk => ?_⟩⟩
  rw [Nat.zero_add]; exact hB.cell k hk
/-- the same, out of an array: no block of single bytes -/
def NewA (w : World) (base : Nat) (v : Value) (l : List UInt8) : Prop := ∃ g T, T ≠ u8t ∧ v = .slice (some ⟨g, 0, none⟩) l.length l.length ∧ base ≤ g ∧ Blk w g T l
theorem NewA.new {w : World} {base : Nat} {v : Value} {l : List UInt8} (h : NewA w base v l) : New w base v l := by
  obtain ⟨g, T, _, h1, h2, h3⟩ := h; exact ⟨g, T, h1, h2, h3⟩
end Lk
namespace Go.Proofs.Ytjbdhnmkeaogcaa
open Go.RowKit Lk
set_option maxHeartbeats 1600000 in
set_option maxRecDepth 100000 in
theorem Do_any1 (q vb : Value) (B : Nat) (key b : List UInt8) (back : Bool) (w : World) (h : Cip w B q 1 key) (hB : B ≤ w.heap.size) (hf : pfits 1 key.length = true) (hs : SlB w vb b) (hb : b.length = 16) :
    Calls Try.prog 13 #[q, vb, .bool back] w fun e w' => ∃ v, e = .returned (.tuple #[v, .nilIface]) ∧ NewA w' w.heap.size v (pdo 1 key b back) ∧ Below w.heap.size w w' := by
  obtain ⟨n, hn⟩ : ∃ n, w.heap.size = n := ⟨_, rfl⟩
  have Hn := Lib.hid hn
  have HNB := Lib.hid hb
  have HS := Lib.hid (Size_any q 1 B key w h)
  have HW := Lib.hid (wide_any q B key b back w h hB hf hb)
  obtain ⟨r, er⟩ : ∃ r, pdo 1 key b back = r := ⟨_, rfl⟩
  have hrl := pdo_len 1 key b back (.inl rfl)
  rw [er] at hrl HW ⊢
  have HRL := Lib.hid (show r.length = 16 from hrl)
  obtain ⟨g, v, bk, rfl, h2, h3, h4, h5, h6, h7⟩ := h
  obtain ⟨A, c, rfl, hA, hlc, hcm, hr⟩ := hs
  rw [hb] at hlc ⊢
  obtain ⟨gb, ob, rfl, hrd⟩ := hr (by omega)
  have HRD := Lib.hid hrd
  clear h7 h6 h3 hf hr hrd hA er hrl hb h5
  go_enter Try.func13, Try.ntmps13
  go_wp2_with (first
    | (go_at_call 32; refine HS.out.mono ?_; rintro e w0 ⟨rfl, rfl⟩)
    | (refine to_array rfl 40 _ rfl (some ⟨gb, ob, none⟩) 16 16 _ 5 rfl (by omega) (by kernel_rfl) ?_)
    | (refine load_rd rfl 40 _ rfl gb ob 16 5 b rfl HRD.out HNB.out (by kernel_rfl) (by kernel_rfl) ?_)
    | (go_at_call 34; refine HW.out.mono ?_; rintro e w1 ⟨rfl, hG1⟩)
    | ((with_reducible show wpList _ _ _ _ _ w1); refine alloc_row (w := w1) rfl 40 rfl (.agg (Bs (List.replicate 16 0))) 16 (fun _ => by kernel_rfl) rfl ?_; intro w2 hR2 _ hG2 hs2)
    | ((with_reducible show wpList _ _ _ _ _ w2); refine store_blk (w := w2) rfl 40 _ _ rfl w1.heap.size 40 16 r rfl rfl hR2 HRL.out (by kernel_rfl) ?_; intro w3 hB3 hG3 hs3))
  go_ret2
  have h1s := hG1.size
  refine ⟨_, rfl, ⟨w1.heap.size, 40, by decide, by rw [HRL.out]; rfl, hG1.size, hB3⟩, ?_⟩
  exact below_new (below_none hG1 (by omega) hG2) (by omega) hG3 (by omega)
end Go.Proofs.Ytjbdhnmkeaogcaa
