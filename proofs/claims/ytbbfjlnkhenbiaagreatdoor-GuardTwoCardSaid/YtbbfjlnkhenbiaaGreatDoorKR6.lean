/- The reference's ciphers: a block done with AES or TDES; whatever the book is. -/
import Derived.Test.YtbbfjlnkhenbiaaGreatDoorKR5
import Derived.Test.YtbbfjlnkhenbiaaGreatDoorKRH
import Derived.Test.YtbbfjlnkhenbiaaGreatDoorKG0
import Derived.Test.YtbbfjlnkhenbiaaGreatDoorKB5
set_option linter.unusedVariables false
set_option linter.unusedSimpArgs false
namespace Lk
open Go Go.RowKit
theorem results_ctt {fn : Func} {p u v : Tmp} {ty : TypeId} (h : fn.results = #[.cell p ty, .tmp u, .tmp v]) (tmps : Array Value) (P : Program) (w : World) :
    (results fn tmps).run P w =
      ((asAddr (tmps.getD p undef)).run P w).andThen fun a w₁ => ((loadVar ty a).run P w₁).andThen fun x w₂ => .ok (.tuple #[x, tmps.getD u undef, tmps.getD v undef]) w₂ := by
  simp only [results, h]
  simp [Sem.run_bind, Result.andThen]
theorem updn_all (n : Nat) (b z : List UInt8) (h : b.length = n) : updn n (g8 b) z n = b := by
  apply List.ext_getElem
  · rw [updn_len, h]
  · intro i h1 h2
    have : i < n := by omega
    simp [updn, g8, h2, this]
def bkt : Nat := 37
end Lk
namespace Go.Proofs.YtbbfjlnkhenbiaaGreatDoor
open Go Go.RowKit Lk
theorem bkt_s : (match Tryz.prog.underlying bkt with | some (.struct _) => true | _ => false) = true := by kernel_rfl
theorem bkt_d : ∃ f, Tryz.prog.underlying bkt = some (.struct f) := by
  have := bkt_s
  revert this
  generalize Tryz.prog.underlying bkt = d
  rcases d with _ | d
  · intro h; cases h
  · cases d <;> intro h <;> first | exact ⟨_, rfl⟩ | cases h
theorem bkt_i : (Tryz.prog.info? bkt).map (·.size) = some 2 := by kernel_rfl
/-- a book in a block -/
def Bk (w : World) (g T : Nat) (x y : Value) : Prop := VB w g T [x, y]
theorem load_bk (w : World) (g T : Nat) (x y : Value) (h : Bk w g T x y) : (loadVar bkt ⟨g, 0, none⟩ : Sem Value).run Tryz.prog w = .ok (.agg #[x, y]) w := by
  obtain ⟨f, hf⟩ := bkt_d
  exact run_loadVar_mid (P := Tryz.prog) w g 0 bkt [x, y] (.struct f) (VB.range h 0 2) hf rfl bkt_i
section
variable {ops : Array Oper} {rest : List Oper} {o : Oper} {a : Act} {w : World} {Q : Exit → Act → World → Prop}
theorem results_bk {fn : Func} {p u v : Tmp} (h : fn.results = #[.cell p bkt, .tmp u, .tmp v]) (tmps : Array Value) (w : World) (g T : Nat) (x y : Value) (hp : tmps.getD p undef = .pointer (some ⟨g, 0, none⟩)) (hg : Bk w g T x y) :
    (results fn tmps).run Tryz.prog w = .ok (.tuple #[.agg #[x, y], tmps.getD u undef, tmps.getD v undef]) w := by
  rw [results_ctt h, hp]
  simp only [asAddr, Sem.run_pure, Result.andThen, load_bk w g T x y hg]
theorem load_bkw (hw : Region.wanted o (yielded ops a.tmps) = true) (z : Operand) (ho : o.op = .load bkt z) (g T : Nat) (x y : Value) (hx : a.eval z = .pointer (some ⟨g, 0, none⟩)) (hB : Bk w g T x y)
    (h : wpList Tryz.prog ops Q rest (a.put o.dst (.agg #[x, y])) w) : wpList Tryz.prog ops Q (o :: rest) a w :=
  wpList_step fun K hK => by
    simp only [hw, if_true]
    unfold Oper.wp execOp
    simp only [ho, hx, Instr.loadAt, Instr.sureAddr, Sem.run_bind, Sem.run_pure, Result.andThen_ok, load_bk w g T x y hB]
    exact hK _ _ h
end
set_option maxHeartbeats 3200000 in
set_option maxRecDepth 100000 in
theorem rDo1_any (vk vx : Value) (key b : List UInt8) (x y : Value) (w : World) (hx1 : ∃ A n c, x = .slice A n c) (hy1 : ∃ A n c, y = .slice A n c) (hk : SlB w vk key) (hn : key.length = 16 ∨ key.length = 24 ∨ key.length = 32) (hb : SlB w vx b) (hbl : b.length = 16) :
    Calls Tryz.prog 51 #[.int .i64 1, vk, .agg #[x, y], vx, .bool false] w fun e w' => ∃ v, e = .returned (.tuple #[.agg #[x, y], v, .bool true]) ∧ SlB w' v (pEnc key b) ∧ (∀ q, v.ownBlock = some q → w.heap.size ≤ q) ∧ Below w.heap.size w w' := by
  obtain ⟨N, hN⟩ : ∃ N, w.heap.size = N := ⟨_, rfl⟩
  have HN := Lib.hid hN
  obtain ⟨A1, n1, c1, ex⟩ := hx1
  obtain ⟨A2, n2, c2, ey⟩ := hy1
  have HK := Lib.hid hk
  have HKN := Lib.hid hn
  have HBL := Lib.hid hbl
  have HE := Lib.hid (pEnc_len key b hbl)
  obtain ⟨A, c, rfl, _, hc1, hc2, hcr⟩ := hb
  rw [hbl] at hc1 ⊢
  obtain ⟨gx, ox, rfl, hxr⟩ := hcr (by omega)
  have hgx : gx < N := by rw [← hN]; exact block_of_cell (hxr 0 (by omega))
  have HXR := Lib.hid hxr
  have HGX := Lib.hid hgx
  clear hn hbl hxr hcr hgx
  go_enter Tryz.func51, Tryz.ntmps51
  go_wp2_with (first
    | ((with_reducible show wpList _ _ _ _ _ w); refine box_vb (w := w) rfl bkt _ rfl [x, y] (by rfl) ?_; intro w1 hB1 hG1 hs1; have HB1 := Lib.hid hB1; have HG1 := Lib.hid hG1; clear hB1 hG1)
    | ((with_reducible show wpList _ _ _ _ _ w1); refine alloc_vb (w := w1) rfl bkt rfl (.agg #[.slice none 0 0, .slice none 0 0]) [.slice none 0 0, .slice none 0 0] (fun _ => by kernel_rfl) rfl ?_; intro w2 hB2 hG2 hs2; have HB2 := Lib.hid hB2; have HG2 := Lib.hid hG2; clear hB2 hG2)
    | ((with_reducible show wpList _ _ _ _ _ w2); refine alloc_row (w := w2) rfl 53 rfl (.agg (Bs (List.replicate 16 0))) 16 (fun _ => by kernel_rfl) rfl ?_; intro w3 _ hh3 hG3 hs3; have HB3 := Lib.hid (show Blk w3 w2.heap.size 53 (List.replicate 16 0) from hh3); have HG3 := Lib.hid hG3; clear hh3 hG3))
  have e1 : w1.heap.size = N + 1 := by omega
  have e2 : w2.heap.size = N + 2 := by omega
  have HB1' := Lib.hid (show Bk w3 N bkt x y from by
    have := HB1.out
    rw [hN] at this
    exact (this.old HG2.out (by simp)).old HG3.out (by simp))
  have HB2' := Lib.hid (show Bk w3 (N + 1) bkt (.slice none 0 0) (.slice none 0 0) from by
    have := HB2.out
    rw [e1] at this
    exact this.old HG3.out (by simp))
  have HB3' := Lib.hid (show Blk w3 (N + 2) 53 (updn 16 (g8 b) (List.replicate 16 0) 0) from by
    have := HB3.out
    rw [e2] at this
    rw [updn_zero _ _ _ (by simp)]
    exact this)
  have HM3 := Lib.hid (show Below N w w3 from below_none (below_none (below_none (Below.refl N w) (by omega) HG1.out) (by omega) HG2.out) (by omega) HG3.out)
  have HZ3 := Lib.hid (show N + 3 ≤ w3.heap.size by omega)
  clear HB1 HB2 HB3 HG1 HG2 HG3 hs1 hs2 hs3 e1 e2 hN
  go_loopw [14] (fun i wq => ∃ k : Nat, k ≤ 16 ∧ i = .int .i64 k ∧ Blk wq (N + 2) 53 (updn 16 (g8 b) (List.replicate 16 0) k) ∧ w3.grownBy wq (some (N + 2))) (fun i _ => 16 - (intOf i).toNat)
  case atStart => exact ⟨0, by omega, rfl, HB3'.out, grown_refl _ _⟩
  case round =>
    clear HB3'
    obtain ⟨k, hk2, rfl, hB, hG⟩ := hrel
    by_cases hlt : k < 16
    · have c1 : wr.cell? ⟨gx, ox + k, none⟩ = some (.int .u8 (bv (g8 b k))) := cell_old (cell_below (HXR.out k (by rw [HBL.out]; exact hlt)) HM3.out HGX.out) hG (by have := HGX.out; simp; omega)
      have c2 := hB.cell k (by rw [updn_len]; exact hlt)
      have f2 := hB.free k
      have HSE := Lib.hid (updn_set 16 (g8 b) (List.replicate 16 0) k hlt)
      generalize g8 b k = x1 at c1 HSE
      have HB := Lib.hid hB
      have HG := Lib.hid hG
      have HLT := Lib.hid hlt
      have hki : (k : Int) < 16 := by omega
      clear hB hG hlt hk2
      go_wp2
      go_roundw
      case rel => exact ⟨k + 1, HLT.out, by go_num, by rw [← HSE.out]; exact HB.out.set k _, grown_set HG.out _ _⟩
      case measure => have := HLT.out; simp [intOf]; omega
    · have hk16 : k = 16 := by omega
      have hki : ¬ ((k : Int) < 16) := by omega
      rw [hk16, updn_all 16 b _ HBL.out] at hB
      obtain ⟨wf, rfl⟩ : ∃ wf : World, wf = wr := ⟨_, rfl⟩
      have HBf := Lib.hid hB
      have HMf := Lib.hid (show Below N w wf from below_new HM3.out (by have := HZ3.out; omega) hG (by omega))
      have H1f := Lib.hid (show Bk wf N bkt x y from HB1'.out.old hG (by simp))
      have H2f := Lib.hid (show Bk wf (N + 1) bkt (.slice none 0 0) (.slice none 0 0) from HB2'.out.old hG (by simp))
      have HZf := Lib.hid (show N + 3 ≤ wf.heap.size from by have := HZ3.out; have := hG.size; omega)
      clear hB hG HB1' HB2' HM3 HZ3 hk16 hlt hk2
      go_wp2_with (first
        | ((with_reducible show wpList _ _ _ _ _ wf); refine load_blk (w := wf) rfl 53 _ rfl (N + 2) 53 16 5 b (by rfl) HBf.out HBL.out (by kernel_rfl) (by kernel_rfl) ?_)
        | (go_at_call 81; refine (rEncrypt_any vk key b wf (HK.out.below (by rw [HN.out]; exact HMf.out)) HKN.out HBL.out).mono ?_; rintro e w5 ⟨rfl, hL5⟩; have HL5 := Lib.hid hL5; clear hL5)
        | ((with_reducible show wpList _ _ _ _ _ w5); refine store_blk (w := w5) rfl 53 _ _ rfl (N + 2) 53 16 (pEnc key b) (by rfl) (by rfl) ((HBf.out.under HL5.out).row HBL.out) HE.out (by kernel_rfl) ?_; intro w6 hB6 hG6 hs6))
      have h1 := (VB.next H1f.out HL5.out).old hG6 (by simp)
      have h2 := (VB.next H2f.out HL5.out).old hG6 (by simp)
      have k0 := h1.cell 0 x rfl
      have k1 := h1.cell 1 y rfl
      have z0 := h2.cell 0 _ rfl
      have z1 := h2.cell 1 _ rfl
      have g0 := h2.free 0
      have g1 := h2.free 1
      have HP := Lib.hid h2
      have HB6 := Lib.hid hB6
      have HM6 := Lib.hid (show Below N w w6 from below_new (below_more HMf.out HL5.out (by have := HZf.out; omega)) (by have := HZf.out; have := HL5.out.size; omega) hG6 (by omega))
      clear h1 h2 hB6 hG6 hs6 HBf HMf H1f H2f HZf HL5
      subst ex
      subst ey
      go_region
      all_goals
        go_wp2
        have hG7 : w6.grownBy ((w6.drew.setCell ⟨N + 1, 0, none⟩ (.slice A1 n1 c1)).setCell ⟨N + 1, 1, none⟩ (.slice A2 n2 c2)) (some (N + 1)) := grown_set (grown_set (grown_drew (grown_refl _ _)) _ _) _ _
        have hB7 := HB6.out.old hG7 (by simp)
        refine bodyPost_ret (results_bk rfl _ _ (N + 1) bkt (.slice A1 n1 c1) (.slice A2 n2 c2) rfl ((HP.out.drewN 1).set 0 _ |>.set 1 _)) rfl ⟨_, rfl, ?_, ?_, ?_⟩
        · exact ⟨_, 16, by rw [HE.out]; rfl, fun h => (by cases h), by rw [HE.out]; exact Nat.le_refl _, by decide, fun _ => ⟨N + 1 + 1, 0, rfl, fun k hk => by rw [Nat.zero_add]; exact hB7.cell k hk⟩⟩
        · intro q hq
          have hq' : Value.ownBlock (.slice (some ⟨N + 1 + 1, 0, none⟩) 16 16) = some q := hq
          have : N + 1 + 1 = q := by simpa [Value.ownBlock] using hq'
          have := HN.out
          omega
        · rw [HN.out]; exact below_new HM6.out (by have := HM6.out.size; have := HN.out; omega) hG7 (by omega)
end Go.Proofs.YtbbfjlnkhenbiaaGreatDoor
set_option linter.unusedVariables false
set_option linter.unusedSimpArgs false
namespace Go.Proofs.YtbbfjlnkhenbiaaGreatDoor
open Go Go.RowKit Lk
theorem ne_rows {a b : Option Nat} (X : Nat) (h1 : ∀ q, a = some q → X ≤ q) (h2 : ∀ q, b = some q → q < X) : a = none ∨ a ≠ b := by
  cases a with
  | none => exact .inl rfl
  | some q => exact .inr fun e => by have := h1 q rfl; have := h2 q e.symm; omega
theorem rSize_1 (w : World) : Calls Tryz.prog 14 #[.int .i64 1] w fun e w' => e = .returned (.int .i64 16) ∧ w' = w := by
  go_enter Tryz.func14, Tryz.ntmps14
  go_wp2
  go_ret
  exact ⟨rfl, rfl⟩
theorem sl_one (u : Value) (h : ∃ A n c, u = .slice A n c) : u.oneCell' = true := by
  obtain ⟨A, n, c, rfl⟩ := h; rfl
set_option maxHeartbeats 6400000 in
set_option maxRecDepth 100000 in
theorem rMode1_any (vk vs vt : Value) (key start text : List UInt8) (x y : Value) (m : Nat) (w : World) (hx1 : ∃ A n c, x = .slice A n c) (hy1 : ∃ A n c, y = .slice A n c) (hk : SlB w vk key) (hn : key.length = 16 ∨ key.length = 24 ∨ key.length = 32) (hs : SlB w vs start) (hsl : start.length = 16) (ht : SlB w vt text) (htl : text.length = 16 * m) (hm : 0 < m) (hmx : m ≤ 1000) :
    Calls Tryz.prog 16 #[.int .i64 1, vk, .agg #[x, y], vs, vt, .bool false] w fun e w' => ∃ v, e = .returned (.tuple #[.agg #[x, y], v, .int .i64 (-1)]) ∧ Own w' w.heap.size v (chTo 1 key start text m).1 ∧ Below w.heap.size w w' := by
  obtain ⟨N, hN⟩ : ∃ N, w.heap.size = N := ⟨_, rfl⟩
  have HN := Lib.hid hN
  have HX1 := Lib.hid hx1
  have HY1 := Lib.hid hy1
  have HONE := Lib.hid (show ∀ u ∈ [x, y], u.oneCell' = true from by
    intro u hu
    rcases List.mem_cons.1 hu with rfl | hu
    · exact sl_one _ hx1
    · rcases List.mem_cons.1 hu with rfl | hu
      · exact sl_one _ hy1
      · cases hu)
  have HK := Lib.hid hk
  have HKN := Lib.hid hn
  have HSL := Lib.hid hsl
  obtain ⟨As, cs, rfl, _⟩ := id hs
  rw [hsl] at hs ⊢
  have HS := Lib.hid hs
  obtain ⟨A, ct, rfl, _, hlc, hcm, hr⟩ := ht
  obtain ⟨gt, ot, rfl, hrd⟩ := hr (by omega)
  have hgt : gt < N := by rw [← hN]; exact block_of_cell (hrd 0 (by omega))
  have HGT := Lib.hid hgt
  have HRD := Lib.hid hrd
  have HT := Lib.hid htl
  rw [htl] at hlc ⊢
  clear hx1 hy1 hk hn hs hsl hr hrd htl hgt
  go_enter Tryz.func16, Tryz.ntmps16
  go_wp2_with (first
    | ((with_reducible show wpList _ _ _ _ _ w); refine box_vb (w := w) rfl bkt _ rfl [x, y] (by rfl) ?_; intro w1 hB1 hG1 hs1; have HB1 := Lib.hid hB1; have HG1 := Lib.hid hG1; clear hB1 hG1)
    | ((with_reducible show wpList _ _ _ _ _ w1); refine alloc_vb (w := w1) rfl bkt rfl (.agg #[.slice none 0 0, .slice none 0 0]) [.slice none 0 0, .slice none 0 0] (fun _ => by kernel_rfl) rfl ?_; intro w2 hB2 hG2 hs2; have HB2 := Lib.hid hB2; have HG2 := Lib.hid hG2; clear hB2 hG2)
    | (go_at_call 14; refine (rSize_1 _).mono ?_; rintro e w2 ⟨rfl, rfl⟩))
  have e1 : w1.heap.size = N + 1 := by omega
  have HB1' := Lib.hid (show Bk w2 N bkt x y from by
    have := HB1.out
    rw [hN] at this
    exact this.old HG2.out (by simp))
  have HB2' := Lib.hid (show Row w2 (N + 1) bkt 2 from by
    have := HB2.out
    rw [e1] at this
    exact VB.row this rfl)
  have HM2 := Lib.hid (show Below N w w2 from below_none (below_none (Below.refl N w) (by omega) HG1.out) (by omega) HG2.out)
  have HZ2 := Lib.hid (show N + 2 ≤ w2.heap.size by omega)
  have HS2 := Lib.hid (HS.out.below (show Below w.heap.size w w2 from by rw [HN.out]; exact HM2.out))
  clear HB1 HB2 HG1 HG2 hs1 hs2 e1 hN
  go_loopw [16, 17, 18] (fun vl vo i wr => ∃ k : Nat, k ≤ m ∧ i = .int .i64 ((16 * k : Nat) : Int) ∧ SlB wr vl (chTo 1 key start text k).2 ∧ Own wr (N + 2) vo (chTo 1 key start text k).1 ∧ Bk wr N bkt x y ∧ Row wr (N + 1) bkt 2 ∧ Below N w wr ∧ N + 2 ≤ wr.heap.size) (fun _ _ i _ => 16 * m - (intOf i).toNat)
  case atStart => exact ⟨0, by omega, rfl, HS2.out, own_nil _ _, HB1'.out, HB2'.out, HM2.out, HZ2.out⟩
  case round =>
    clear HB1' HB2' HM2 HZ2 HS2
    obtain ⟨k, hk, rfl, hV, hO, hB, hR, hM, hz⟩ := hrel
    obtain ⟨i, ei⟩ : ∃ i, 16 * k = i := ⟨_, rfl⟩
    rw [ei]
    have EI := Lib.hid ei
    by_cases hlt : k < m
    · have i2 : (i : Int) + 16 ≤ 16 * (m : Int) := by omega
      have i3 : (i : Int) + 16 ≤ (ct : Int) := by omega
      have i4 : ¬ ct = i := by omega
      have i5 : i ≤ 16000 := by omega
      have HLT := Lib.hid hlt
      obtain ⟨lst, el⟩ : ∃ lst, (chTo 1 key start text k).2 = lst := ⟨_, rfl⟩
      obtain ⟨acc, ea⟩ : ∃ acc, (chTo 1 key start text k).1 = acc := ⟨_, rfl⟩
      have hll : lst.length = 16 := by rw [← el]; exact chTo_last 1 key start text k (.inl rfl) HSL.out
      have hal : acc.length = 16 * k := by rw [← ea]; exact chTo_len 1 key start text k (.inl rfl)
      rw [el] at hV
      rw [ea] at hO
      obtain ⟨bk, eb⟩ : ∃ bk, blkAt text 16 k = bk := ⟨_, rfl⟩
      have hbl : bk.length = 16 := by rw [← eb]; unfold blkAt; rw [List.length_take, List.length_drop, HT.out]; omega
      have hsb : SlB wr (.slice (some ⟨gt, ot + i, none⟩) 16 (ct - i)) bk := by
        refine ⟨_, _, by rw [hbl], fun h => (by cases h), by omega, by omega, fun _ => ⟨gt, ot + i, rfl, ?_⟩⟩
        have h := Rd.sub (HRD.out.below hM HGT.out) i 16 (by rw [HT.out]; omega)
        rw [← eb]; unfold blkAt; rw [ei]; exact h
      have HXL := Lib.hid (show (pxor bk lst).length = 16 by rw [pxor_len, hbl])
      obtain ⟨r, er⟩ : ∃ r, pEnc key (pxor bk lst) = r := ⟨_, rfl⟩
      have hrl : r.length = 16 := by rw [← er]; exact pEnc_len _ _ HXL.out
      have hstep : chTo 1 key start text (k + 1) = (acc ++ r, r) := by
        show ((chTo 1 key start text k).1 ++ pdo 1 key (pxor (blkAt text 16 k) (chTo 1 key start text k).2) false, pdo 1 key (pxor (blkAt text 16 k) (chTo 1 key start text k).2) false) = _
        rw [el, ea, eb, show pdo 1 key (pxor bk lst) false = pEnc key (pxor bk lst) from rfl, er]
      have HST := Lib.hid hstep
      have HRL := Lib.hid hrl
      have HAL := Lib.hid hal
      have HV := Lib.hid hV
      have HO := Lib.hid hO
      have HB := Lib.hid hB
      have HR := Lib.hid hR
      have HM := Lib.hid hM
      have HSB := Lib.hid hsb
      have HLL := Lib.hid (show bk.length = lst.length by omega)
      have HBL := Lib.hid hbl
      have HER := Lib.hid er
      have HZ := Lib.hid hz
      clear hV hO hB hR hM hsb hbl hll hal hrl er el ea eb hstep ei hlt hk hz
      go_wp2_with (first
        | (go_at_call 50; refine (RXor_any _ _ bk lst wr HSB.out HV.out HLL.out (by rw [HBL.out]; decide)).mono ?_; rintro e w3 ⟨vx, rfl, hO3, hL3⟩; have HO3 := Lib.hid hO3; have HL3 := Lib.hid hL3; clear hO3 hL3)
        | ((with_reducible show wpList _ _ _ _ _ w3); refine load_bkw (w := w3) (by rfl) _ rfl N bkt x y (by rfl) (VB.next HB.out HL3.out) ?_)
        | (go_at_call 51; refine (rDo1_any vk _ key (pxor bk lst) x y w3 HX1.out HY1.out (HK.out.below (below_more (by rw [HN.out]; exact HM.out) HL3.out (by have := HZ.out; have := HN.out; omega))) HKN.out HO3.out.slB HXL.out).mono ?_; rintro e w4 ⟨vd, rfl, hD4, hd4, hL4⟩; rw [HER.out] at hD4; obtain ⟨gd, cd, rfl⟩ := hD4.form HRL.out; have HD4 := Lib.hid hD4; have Hd4 := Lib.hid hd4; have HL4 := Lib.hid hL4; obtain ⟨n2, en2⟩ : ∃ n, w4.heap.size = n := ⟨_, rfl⟩; have EN2 := Lib.hid en2; clear hD4 hd4 hL4 en2)
        | ((with_reducible show wpList _ _ _ _ _ w4); refine alloc_vb (w := w4) rfl bkt rfl (.agg #[.slice none 0 0, .slice none 0 0]) [.slice none 0 0, .slice none 0 0] (fun _ => by kernel_rfl) rfl ?_; intro w5 hB5 hG5 hs5; rw [EN2.out] at hB5; rw [EN2.out]; have HB5 := Lib.hid hB5; have HG5 := Lib.hid hG5; clear hB5 hG5 hs5)
        | ((with_reducible show wpList _ _ _ _ _ w5); refine store_vr (w := w5) rfl bkt _ _ rfl n2 bkt 2 [x, y] (by rfl) (by rfl) (VB.row HB5.out rfl) HONE.out rfl bkt_i ?_; intro w6 hB6 hG6 hs6; have HB6 := Lib.hid hB6; have HG6 := Lib.hid (show w4.grownBy w6 (some n2) from grown_trans (grown_weakr HG5.out) hG6); clear hB6 hG6 hs6)
        | ((with_reducible show wpList _ _ _ _ _ w6); refine load_bkw (w := w6) (by rfl) _ rfl n2 bkt x y (by rfl) HB6.out ?_)
        | ((with_reducible show wpList _ _ _ _ _ w6); refine store_vr (w := w6) rfl bkt _ _ rfl N bkt 2 [x, y] (by rfl) (by rfl) (VB.row ((VB.next (VB.next HB.out HL3.out) HL4.out).old HG6.out (by have := HZ.out; have := HL3.out.size; have := HL4.out.size; have := EN2.out; simp; omega)) rfl) HONE.out rfl bkt_i ?_; intro w7 hB7 hG7 hs7; have HB7 := Lib.hid hB7; have HG7 := Lib.hid hG7; have HO7 := Lib.hid (((HO.out.under HL3.out).under HL4.out).kept HG6.out (.inr (fun e => absurd (HO.out.lt n2 e).2 (by have := HL3.out.size; have := HL4.out.size; have := EN2.out; omega))) |>.kept HG7.out (.inr (fun e => absurd (HO.out.lt N e).1 (by omega)))); have HD7 := Lib.hid ((HD4.out.old HG6.out (.inr (fun e => absurd (HD4.out.lt (by rw [HRL.out]; decide) n2 e) (by have := EN2.out; omega)))).old HG7.out (.inr (fun e => absurd (Hd4.out N e) (by have := HL3.out.size; have := HZ.out; omega)))); have hz7 : N + 2 ≤ w7.heap.size := (by have := HG6.out.size; have := HL3.out.size; have := HL4.out.size; have := HZ.out; omega); clear hB7 hG7 hs7)
        | (at_builtin; (with_reducible show wpList _ _ _ _ _ w7); refine append_b hu_sl hu_u8 rfl _ _ rfl (N + 2) _ acc (by rfl) HO7.out _ r (by rfl) HD7.out (by rw [HAL.out, HRL.out]; have := HLT.out; omega) hz7 ?_; intro v8 w8 hO8 hG8; have HO8 := Lib.hid hO8; have HG8 := Lib.hid hG8; clear hO8 hG8))
      go_roundw
      case rel =>
        have hz3 := HL3.out.size
        have hz4 := HL4.out.size
        have hz0 := HZ.out
        have hn2 := EN2.out
        have hM7 : Below N w w7 := below_new (below_new (below_more (below_more HM.out HL3.out (by omega)) HL4.out (by omega)) (by omega) HG6.out (by omega)) (by have := HG6.out.size; omega) HG7.out (Nat.le_refl _)
        have hR7 : Row w7 (N + 1) bkt 2 := (((HR.out.below HL3.out (by omega)).below HL4.out (by omega)).old HG6.out (by simp; omega)).old HG7.out (by simp)
        refine ⟨k + 1, HLT.out, by have := EI.out; congr 1; omega, ?_, by rw [HST.out]; exact HO8.out, VB.old HB7.out HG8.out (fun e => absurd (HO7.out.lt N e).1 (by omega)), hR7.old HG8.out (fun e => absurd (HO7.out.lt (N + 1) e).1 (by omega)), below_own hM7 (by omega) HG8.out (fun q hq => by have := (HO7.out.lt q hq).1; omega), by have := HG8.out.size; omega⟩
        rw [HST.out]
        exact HD7.out.old HG8.out (ne_rows w3.heap.size Hd4.out (fun q hq => by have := (HO.out.lt q hq).2; omega))
      case measure => have := HLT.out; have := EI.out; simp [intOf]; omega
    · have hkm : k = m := by omega
      have i2 : ¬ ((i : Int) + 16 ≤ 16 * (m : Int)) := by omega
      have i5 : i ≤ 16000 := by omega
      rw [hkm] at hO
      have HO := Lib.hid hO
      have HB := Lib.hid hB
      have HR := Lib.hid hR
      have HM := Lib.hid hM
      clear hV hO hB hR hM hkm ei
      go_wp2_with (first
        | ((with_reducible show wpList _ _ _ _ _ wr); refine load_bkw (w := wr) (by rfl) _ rfl N bkt x y (by rfl) HB.out ?_)
        | ((with_reducible show wpList _ _ _ _ _ wr); refine store_vr (w := wr) rfl bkt _ _ rfl (N + 1) bkt 2 [x, y] (by rfl) (by rfl) HR.out HONE.out rfl bkt_i ?_; intro w9 hB9 hG9 hs9))
      refine bodyPost_ret (results_bk rfl _ _ (N + 1) bkt x y rfl hB9) rfl ⟨_, rfl, ?_, ?_⟩
      · rw [HN.out]; exact (HO.out.kept hG9 (.inr (fun e => absurd (HO.out.lt (N + 1) e).1 (by omega)))).lower (by omega)
      · rw [HN.out]; exact below_new HM.out (by omega) hG9 (by omega)
end Go.Proofs.YtbbfjlnkhenbiaaGreatDoor
set_option linter.unusedVariables false
set_option linter.unusedSimpArgs false
namespace Lk
open Go Go.RowKit
section
variable {P : Program} {ops : Array Oper} {Q : Exit → Act → World → Prop} {K : Act → World → Prop} {i : Nat} {o : Oper} {a : Act} {w : World}
theorem wpOp_enterE (hi : ops[i]? = some o) (hw : Region.wanted o (yielded ops a.tmps) = true) (f : FuncId) (args : Array Value) (G : Value → World → Prop) (h : (execOp a.eval o).run P w = .ok (.enter f args) w)
    (hc : Calls P f args w fun e w' => ∃ v, e = .returned v ∧ G v w') (hk : ∀ v w', G v w' → K (a.put o.dst v) w') : wpOp P ops Q i K a w := by
  unfold Go.wpOp
  simp only [hi, hw, if_true]
  refine .inl ?_
  unfold Oper.wp
  rw [h]
  refine hc.mono ?_
  rintro e w' ⟨v, rfl, hG⟩
  exact hk v w' hG
theorem wpOp_storev (hi : ops[i]? = some o) (hw : Region.wanted o (yielded ops a.tmps) = true) (ty : TypeId) (x y : Operand) (ho : o.op = .store ty x y) (g T m : Nat) (l : List Value) (hx : a.eval x = .pointer (some ⟨g, 0, none⟩)) (hy : a.eval y = .agg l.toArray) (hR : Row w g T m) (h2 : ∀ u ∈ l, u.oneCell' = true) (hm : l.length = m)
    (hinfo : (P.info? ty).map (·.size) = some m)
    (hk : ∀ w1, VB w1 g T l → w.grownBy w1 (some g) → w1.heap.size = w.heap.size → K (a.put o.dst undef) w1) : wpOp P ops Q i K a w := by
  unfold Go.wpOp
  simp only [hi, hw, if_true]
  refine .inl ?_
  obtain ⟨old, hg, hs⟩ := hR
  refine wp_store_row ty x y ho g l.toArray hx hy T old hg (by rw [hinfo]; simp [hm]) (by rw [hs]; simp [hm]) (all_oneCell_toArray h2) ?_
  refine hk _ ?_ ?_ (size_setRow w g _)
  · exact setRow_heap w g old _ T _ hg
  · exact ⟨rfl, rfl, rfl, Nat.le_of_eq (size_setRow w g _).symm, fun i hi hr => setRow_other w g i _ (by rintro rfl; exact hr rfl)⟩
end
end Lk
namespace Go.Proofs.YtbbfjlnkhenbiaaGreatDoor
open Go Go.RowKit Lk
section
variable {ops : Array Oper} {o : Oper} {a : Act} {w : World}
theorem yields_bk {S : World → Prop} (hw : Region.wanted o (yielded ops a.tmps) = true) (z : Operand) (ho : o.op = .load bkt z) (g T : Nat) (x y : Value) (hx : a.eval z = .pointer (some ⟨g, 0, none⟩)) (hB : ∀ w, S w → Bk w g T x y) : YieldsIf Tryz.prog ops S o (.agg #[x, y]) a := .inl ⟨hw, fun w hS => by
    unfold execOp
    simp only [ho, hx, Instr.loadAt, Instr.sureAddr, Sem.run_bind, Sem.run_pure, Result.andThen_ok, load_bk w g T x y (hB w hS)]⟩
end
end Go.Proofs.YtbbfjlnkhenbiaaGreatDoor
