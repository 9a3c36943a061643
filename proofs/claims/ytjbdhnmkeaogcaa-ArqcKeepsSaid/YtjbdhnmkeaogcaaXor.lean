/- Bytes turned by others. -/
import Derived.Test.YtjbdhnmkeaogcaaHeld
import Derived.Laws.MakeOwn
set_option linter.unusedVariables false
set_option linter.unusedSimpArgs false
namespace Lk
open Go Go.RowKit
theorem made_zero (n : Nat) : madeCells #[.int .u8 0] n = Bs (List.replicate n 0) := by
  apply Array.ext
  · simp [size_madeCells, Bs]
  · intro i h1 h2
    simp [madeCells, Bs, Nat.mod_one, bv]
section
variable {P : Program} {ops : Array Oper} {rest : List Oper} {o : Oper} {a : Act} {w : World} {Q : Exit → Act → World → Prop}
theorem make_new (hgd : o.guard = none) (t e : TypeId) (l c : Operand) (ho : o.op = .makeSlice t l c) (n : Nat) (hu : P.underlying t = some (.slice e)) (hinfo : (P.info? e).map (fun i => (i.zero, i.size, i.bytes)) = some (some (.int .u8 0), 1, 1))
    (kl kc : IntKind) (hl : a.eval l = .int kl n) (hc : a.eval c = .int kc n) (hn : n ≤ 1099511627776)
    (h : ∀ w1, Blk w1 w.heap.size e (List.replicate n 0) → w.grownBy w1 none → w1.heap.size = w.heap.size + 1 → wpList P ops Q rest (a.put o.dst (.slice (some ⟨w.heap.size, 0, none⟩) n n)) w1) : wpList P ops Q (o :: rest) a w :=
  wpList_plain hgd fun _ hK => by
    obtain ⟨i, hi, hz, hs, hb⟩ := info_parts hinfo
    have hr := run_make (P := P) w t e i _ hu hi hz kl kc (n : Int) (n : Int) (by omega) (by omega) (by rw [hb]; omega) (by omega)
    rw [hs, Nat.mul_one, Int.toNat_natCast] at hr
    have e0 : (Value.int IntKind.u8 0).cells = #[.int .u8 0] := rfl
    rw [e0, made_zero] at hr
    unfold Oper.wp execOp
    simp only [ho, hl, hc, Sem.run_bind, hr, Result.andThen_ok]
    exact hK _ _ (h _ (heap_alloc_new w _) (grown_alloc (grown_refl w none) _) (by show (w.heap.push _).size = _; simp))
end
/-- the first k bytes turned -/
def xorTo (a b : List UInt8) (k : Nat) : List UInt8 := (List.range a.length).map fun i => if i < k then g8 a i ^^^ g8 b i else 0
def pxor (a b : List UInt8) : List UInt8 := xorTo a b a.length
theorem xorTo_len (a b : List UInt8) (k : Nat) : (xorTo a b k).length = a.length := by simp [xorTo]
theorem pxor_len (a b : List UInt8) : (pxor a b).length = a.length := xorTo_len _ _ _
theorem xorTo_zero (a b : List UInt8) : xorTo a b 0 = List.replicate a.length 0 := by
  apply List.ext_getElem
  · simp [xorTo]
  · intro i h1 h2; simp [xorTo]
theorem xorTo_set (a b : List UInt8) (k : Nat) (hk : k < a.length) : (xorTo a b k).set k (g8 a k ^^^ g8 b k) = xorTo a b (k + 1) := by
  apply List.ext_getElem
  · simp [xorTo]
  · intro i h1 h2
    rw [List.getElem_set]
    simp only [xorTo, List.getElem_map, List.getElem_range]
    by_cases h : k = i
    · subst h; simp
    · by_cases h' : i < k
      · rw [if_neg h, if_pos h', if_pos (by omega)]
      · rw [if_neg h, if_neg h', if_neg (by omega)]
end Lk
namespace Go.Proofs.Ytjbdhnmkeaogcaa
open Go.RowKit Lk
set_option maxHeartbeats 1600000 in
set_option maxRecDepth 100000 in
theorem Xor_any (va vb : Value) (a b : List UInt8) (w : World) (ha : SlB w va a) (hb : SlB w vb b) (hab : a.length = b.length) (h0 : 0 < a.length) (hmx : a.length ≤ 1000000) :
    Calls Try.prog 71 #[va, vb] w fun e w' => ∃ v, e = .returned (.tuple #[v, .nilIface]) ∧ New w' w.heap.size v (pxor a b) ∧ Below w.heap.size w w' := by
  obtain ⟨n, hn⟩ : ∃ n, w.heap.size = n := ⟨_, rfl⟩
  have Hn := Lib.hid hn
  obtain ⟨A, ca, rfl, _, hlca, hcma, hra⟩ := ha
  obtain ⟨B, cb, rfl, _, hlcb, hcmb, hrb⟩ := hb
  obtain ⟨ga, oa, rfl, hrda⟩ := hra (by omega)
  obtain ⟨gb, ob, rfl, hrdb⟩ := hrb (by omega)
  have hgan : ga < n := by rw [← hn]; exact block_of_cell (hrda 0 h0)
  have hgbn : gb < n := by rw [← hn]; exact block_of_cell (hrdb 0 (by omega))
  rw [← hab]
  obtain ⟨m, em⟩ : ∃ m, a.length = m := ⟨_, rfl⟩
  have EM := Lib.hid em
  have EMB := Lib.hid (show b.length = m by omega)
  have HA := Lib.hid hrda
  have HB := Lib.hid hrdb
  rw [em] at hlca hmx h0 ⊢
  rw [← hab, em] at hlcb
  clear hra hrb hrda hrdb hab em
  go_enter Try.func71, Try.ntmps71
  go_wp2_with (refine make_new rfl 22 5 _ _ rfl m (by kernel_rfl) (by kernel_rfl) .i64 .i64 rfl rfl (by omega) ?_; intro w1 hB1 hG1 hs1)
  have hL1 : Below n w w1 := below_none (Below.refl n w) (by omega) hG1
  have hB1' : Blk w1 n 5 (xorTo a b 0) := by rw [xorTo_zero, EM.out]; rw [hn] at hB1; exact hB1
  have hsz : n + 1 ≤ w1.heap.size := by omega
  clear hB1 hG1 hs1 hn
  go_loopw [19] (fun i wr => ∃ k : Nat, k ≤ m ∧ i = .int .i64 k ∧ Blk wr n 5 (xorTo a b k) ∧ Below n w wr ∧ n + 1 ≤ wr.heap.size) (fun i _ => m - (intOf i).toNat)
  case atStart => exact ⟨0, by omega, rfl, hB1', hL1, hsz⟩
  case round =>
    clear hB1' hL1 hsz
    obtain ⟨k, hk, rfl, hB, hL, hsz⟩ := hrel
    by_cases hlt : k < m
    · have c1 : wr.cell? ⟨ga, oa + k, none⟩ = some (.int .u8 (bv (g8 a k))) := cell_below (HA.out k (by rw [EM.out]; exact hlt)) hL hgan
      have c2 : wr.cell? ⟨gb, ob + k, none⟩ = some (.int .u8 (bv (g8 b k))) := cell_below (HB.out k (by rw [EMB.out]; exact hlt)) hL hgbn
      have c3 : wr.cell? ⟨n, k, none⟩ = some (.int .u8 (bv (g8 (xorTo a b k) k))) := hB.cell k (by rw [xorTo_len, EM.out]; exact hlt)
      have f3 : wr.frozen? ⟨n, k, none⟩ = false := hB.free k
      have HBl := Lib.hid hB
      have HL := Lib.hid hL
      have HLT := Lib.hid hlt
      clear hB hL
      go_wp2
      go_region
      go_wp2
      go_roundw
      case rel =>
        have hG : wr.grownBy ((wr.setCell ⟨n, k, none⟩ (.int .u8 (bv (g8 a k ^^^ g8 b k)))).drew) (some n) := grown_drew (grown_set (grown_refl _ _) _ _)
        refine ⟨k + 1, HLT.out, by go_num, ?_, below_new HL.out (by omega) hG (by omega), by show n + 1 ≤ (wr.setCell _ _).heap.size; rw [World.size_setCell]; exact hsz⟩
        rw [← xorTo_set a b k (by rw [EM.out]; exact HLT.out)]
        exact (HBl.out.set k _).drew
      case measure => have : k < m := HLT.out; simp [intOf]; omega
    · have HE := Lib.hid (show k = m by omega)
      have HBl := Lib.hid hB
      have HL := Lib.hid hL
      clear hB hL
      go_wp2
      go_ret2
      refine ⟨_, rfl, ⟨n, 5, by rw [pxor_len, EM.out]; rfl, by rw [Hn.out]; exact Nat.le_refl _, ?_⟩, ?_⟩
      · have := HBl.out
        rw [HE.out] at this
        unfold pxor
        rw [EM.out]; exact this
      · rw [Hn.out]; exact HL.out
end Go.Proofs.Ytjbdhnmkeaogcaa
