/- AES: a key's words. -/
import Derived.Test.YtjbdhnmkeaogcaaClone
import Derived.Test.YtjbdhnmkeaogcaaAesA
set_option linter.unusedVariables false
set_option linter.unusedSimpArgs false
namespace Lk
/-- the last word, turned -/
def wturn (nk i : Nat) (p : UInt8) (t : List UInt8) : List UInt8 :=
  if i % nk = 0 then [gbox (g8 t 1) ^^^ p, gbox (g8 t 2), gbox (g8 t 3), gbox (g8 t 0)]
  else if nk = 8 ∧ i % 8 = 4 then [gbox (g8 t 0), gbox (g8 t 1), gbox (g8 t 2), gbox (g8 t 3)] else t
/-- one word more -/
def wnext (nk : Nat) (w t : List UInt8) : List UInt8 :=
  let n := w.length - 4 * nk
  w ++ [g8 w n ^^^ g8 t 0, g8 w (n + 1) ^^^ g8 t 1, g8 w (n + 2) ^^^ g8 t 2, g8 w (n + 3) ^^^ g8 t 3]
/-- the first k bytes of the new word -/
def wpart (W t : List UInt8) (nk k : Nat) : List UInt8 := (List.range k).map fun i => g8 W (W.length - 4 * nk + i) ^^^ g8 t i
theorem wpart_zero (W t : List UInt8) (nk : Nat) : wpart W t nk 0 = [] := rfl
theorem wpart_len (W t : List UInt8) (nk k : Nat) : (wpart W t nk k).length = k := by simp [wpart]
theorem wpart_succ (W t : List UInt8) (nk k : Nat) : wpart W t nk (k + 1) = wpart W t nk k ++ [g8 W (W.length - 4 * nk + k) ^^^ g8 t k] := by simp [wpart, List.range_succ]
theorem wpart_four (W t : List UInt8) (nk : Nat) : W ++ wpart W t nk 4 = wnext nk W t := rfl
theorem g8_app (l m : List UInt8) (i : Nat) (h : i < l.length) : g8 (l ++ m) i = g8 l i := by simp [g8, List.getElem?_append_left h]
def mix4 (t : List UInt8) (k : Nat) : List UInt8 := (List.range 4).map fun i => if i < k then gbox (g8 t i) else g8 t i
theorem mix4_len (t : List UInt8) (k : Nat) : (mix4 t k).length = 4 := by simp [mix4]
theorem mix4_zero (t : List UInt8) (h : t.length = 4) : mix4 t 0 = t := by
  apply List.ext_getElem
  · rw [mix4_len, h]
  · intro i h1 h2
    simp [mix4, g8, h2]
theorem mix4_at (t : List UInt8) (k i : Nat) (hi : i < 4) : g8 (mix4 t k) i = if i < k then gbox (g8 t i) else g8 t i := by simp [mix4, g8, hi]
theorem mix4_set (t : List UInt8) (k : Nat) (hk : k < 4) : (mix4 t k).set k (gbox (g8 t k)) = mix4 t (k + 1) := by
  apply List.ext_getElem
  · simp [mix4]
  · intro i h1 h2
    rw [List.getElem_set]
    simp only [mix4, List.getElem_map, List.getElem_range]
    by_cases h : k = i
    · subst h; rw [if_pos rfl, if_pos (by omega)]
    · rw [if_neg h]
      by_cases h3 : i < k
      · rw [if_pos h3, if_pos (by omega)]
      · rw [if_neg h3, if_neg (by omega)]
theorem mix4_four (t : List UInt8) : mix4 t 4 = [gbox (g8 t 0), gbox (g8 t 1), gbox (g8 t 2), gbox (g8 t 3)] := rfl
/-- the words and the power after j words more -/
def wst (key : List UInt8) : Nat → List UInt8 × UInt8
  | 0 => (key, 1)
  | j + 1 => let s := wst key j; let nk := key.length / 4
    (wnext nk s.1 (wturn nk (nk + j) s.2 (s.1.drop (s.1.length - 4))), if (nk + j) % nk = 0 then gmul s.2 2 else s.2)
theorem wst_succ (key W t4 t5 : List UInt8) (nk m : Nat) (p p' : UInt8) (hk : key.length / 4 = nk) (hm : nk ≤ m) (hs : wst key (m - nk) = (W, p)) (h4 : W.drop (W.length - 4) = t4) (h5 : wturn nk m p t4 = t5)
    (hp : (if m % nk = 0 then gmul p 2 else p) = p') : wst key (m + 1 - nk) = (wnext nk W t5, p') := by
  rw [show m + 1 - nk = (m - nk) + 1 by omega]
  simp only [wst, hs, hk]
  rw [show nk + (m - nk) = m by omega, h4, h5, hp]
def nrounds (n : Nat) : Nat := if n = 16 then 10 else if n = 24 then 12 else 14
def pwords (key : List UInt8) : List UInt8 := (wst key (4 * (nrounds key.length + 1) - key.length / 4)).1
theorem wst_len (key : List UInt8) (j : Nat) : (wst key j).1.length = key.length + 4 * j := by
  induction j with
  | zero => rfl
  | succ j ih => simp only [wst, wnext, List.length_append, List.length_cons, List.length_nil]; omega
end Lk
namespace Go.Proofs.Ytjbdhnmkeaogcaa
open Go.RowKit Lk
theorem mul_2 (a : UInt8) (w : World) : Calls Try.prog 76 #[.int .u8 (bv a), .int .u8 2] w fun e w' => e = .returned (.int .u8 (bv (gmul a 2))) ∧ w = w' := mul_any a 2 w
theorem rounds_any (A : Option Addr) (n c : Nat) (w : World) (hn : n = 16 ∨ n = 24 ∨ n = 32) : Calls Try.prog 62 #[.slice A n c] w fun e w' => e = .returned (.int .i64 (nrounds n)) ∧ w = w' := by
  rcases hn with rfl | rfl | rfl
  all_goals
    go_enter Try.func62, Try.ntmps62
    go_wp2
    go_ret
    exact ⟨rfl, rfl⟩
/-- what Words returns -/
def RetWords (w : World) (key : List UInt8) (e : Ending) (w' : World) : Prop := ∃ v, e = .returned (.tuple #[v, .nilIface]) ∧ Own w' w.heap.size v (pwords key) ∧ Below w.heap.size w w'
set_option maxHeartbeats 6400000 in
set_option maxRecDepth 100000 in
theorem words_any (v : Value) (key : List UInt8) (w : World) (h : SlB w v key) (hn : key.length = 16 ∨ key.length = 24 ∨ key.length = 32) : Calls Try.prog 61 #[v] w (RetWords w key) := by
  obtain ⟨A, c, rfl, n1, n2, n3, n4⟩ := id h
  have hkl : key.length ≤ 32 := by omega
  have hkp : 16 ≤ key.length := by omega
  have H := Lib.hid h
  have HR := Lib.hid (fun w => rounds_any A key.length c w hn)
  obtain ⟨nr, hnr⟩ : ∃ nr, nrounds key.length = nr := ⟨_, rfl⟩
  have hnr1 : 10 ≤ nr ∧ nr ≤ 14 := by unfold nrounds at hnr; split at hnr <;> (try split at hnr) <;> omega
  have hz : ((nr : Int) == 0) = false := by rw [beq_eq_false_iff_ne]; omega
  rw [hnr] at HR
  have HNR := Lib.hid hnr
  have HN := Lib.hid hn
  obtain ⟨nk, hnk⟩ : ∃ nk, key.length / 4 = nk := ⟨_, rfl⟩
  have hk4 : key.length = 4 * nk := by omega
  have hnk3 : nk = 4 ∨ nk = 6 ∨ nk = 8 := by omega
  have HK3 := Lib.hid hnk3
  have hq : ((key.length : Nat) : Int) / 4 = (nk : Int) := by omega
  have hnk4 : 4 ≤ nk := by omega
  have hnk8 : nk ≤ 8 := by omega
  have HK4 := Lib.hid hk4
  have HK := Lib.hid hnk
  clear h n1 n2 n3 n4 hnr hn hnk hk4 hnk3
  go_enter Try.func61, Try.ntmps61
  go_wp2_with (first
    | (go_at_call 62; refine (HR.out _).mono ?_; rintro e w' ⟨rfl, rfl⟩)
    | (at_builtin; refine append_b hu_sl hu_u8 rfl _ _ rfl w.heap.size _ [] rfl (own_lit0 w _ (Nat.le_refl _)) _ key rfl (H.out.alloc _) (by simp; omega) (by simp) ?_; intro v0 w1 hO hG))
  simp only [List.nil_append] at hO
  have hB1 : Below w.heap.size w w1 := below_new ((Below.refl _ _).alloc (Nat.le_refl _) _) (by simp) hG (Nat.le_refl _)
  clear hG
  obtain ⟨B, hB⟩ : ∃ B, w.heap.size = B := ⟨_, rfl⟩
  rw [hB] at hO hB1
  have HBe := Lib.hid hB
  have HO1 := Lib.hid hO
  have HB1 := Lib.hid hB1
  clear hO hB1 hB
  go_loopw [6, 7, 8] (fun v p i wr => ∃ m : Nat, nk ≤ m ∧ m ≤ 4 * (nr + 1) ∧ i = .int .i64 m ∧ Own wr B v (wst key (m - nk)).1 ∧ p = .int .u8 (bv (wst key (m - nk)).2) ∧ Below B w wr) (fun _ _ i _ => 4 * (nr + 1) - (intOf i).toNat)
  case atStart => exact ⟨nk, by omega, by omega, rfl, by rw [Nat.sub_self]; exact HO1.out, by rw [Nat.sub_self]; rfl, HB1.out⟩
  case round =>
    clear HO1 HB1
    obtain ⟨m, hm1, hm2, rfl, hO, rfl, hBl⟩ := hrel
    by_cases hlt : m < 4 * (nr + 1)
    · obtain ⟨s, hs⟩ : ∃ s, wst key (m - nk) = s := ⟨_, rfl⟩
      obtain ⟨W, p⟩ := s
      rw [hs] at hO
      dsimp only at hO
      simp only [hs]
      obtain ⟨L, hL⟩ : ∃ L, W.length = L := ⟨_, rfl⟩
      have hWl : L = 4 * m := by
        have := wst_len key (m - nk)
        rw [hs] at this
        have h4 : key.length = 4 * nk := HK4.out
        simp only at this
        omega
      have hL16 : 16 ≤ L := by omega
      have hL240 : L ≤ 240 := by omega
      have hLn : 4 * nk ≤ L := by omega
      obtain ⟨g, cap, rfl, hg, hgs, hr, hf, hc⟩ := hO.form (by omega)
      rw [hL] at hO hc ⊢
      have hsz := hBl.size
      rw [HBe.out] at hsz
      have hce : ¬ (cap = L - 4) := by omega
      have HO := Lib.hid hO
      have HR4 : Hid (Rd wr g (L - 4) (W.drop (L - 4))) := Lib.hid (fun k hk => by
        simp only [List.length_drop] at hk
        have := hr (L - 4 + k) (by omega)
        rw [Nat.zero_add] at this
        rw [this]
        simp [g8])
      have HW := Lib.hid hWl
      have HS := Lib.hid hs
      have HBl := Lib.hid hBl
      have HL := Lib.hid hL
      clear hO hr hWl hs hBl hL hf
      obtain ⟨t4, ht4⟩ : ∃ t, W.drop (L - 4) = t := ⟨_, rfl⟩
      have h44 : t4.length = 4 := by rw [← ht4, List.length_drop, HL.out]; omega
      rw [ht4] at HR4
      have H4 := Lib.hid h44
      have HT4 := Lib.hid ht4
      clear h44 ht4
      have ht : decide ((m : Int) < 4 * ((nr : Int) + 1)) = true := by simp; omega
      by_cases h0 : m % nk = 0
      · have z0 : ((m : Int) % (nk : Int) == 0) = true := by rw [beq_iff_eq]; omega
        have Z0 := Lib.hid h0
        clear h0
        go_wp2_with (first
          | (go_at_call 76; refine (mul_2 _ _).mono ?_; rintro e w' ⟨rfl, rfl⟩)
          | (refine to_array rfl 57 _ rfl _ 4 _ _ 5 rfl (by omega) (by kernel_rfl) ?_)
          | (refine load_rd rfl 57 _ rfl g (L - 4) 4 5 t4 rfl HR4.out H4.out (by kernel_rfl) (by kernel_rfl) ?_)
          | (refine alloc_row rfl 57 rfl (.agg (Bs (List.replicate 4 0))) 4 (fun _ => by kernel_rfl) rfl ?_; intro w2 hR2 _ hG2 hs2)
          | (refine store_blk rfl 57 _ _ rfl wr.heap.size 57 4 t4 rfl rfl hR2 H4.out (by kernel_rfl) ?_; intro w3 hB3 hG3 hs3))
        obtain ⟨n0, hn0⟩ : ∃ n0, wr.heap.size = n0 := ⟨_, rfl⟩
        rw [hn0] at hB3 hG3 ⊢
        have c0 : w3.cell? ⟨n0, 0, none⟩ = some (.int .u8 (bv (g8 t4 0))) := hB3.cell 0 (by rw [H4.out]; omega)
        have c1 : w3.cell? ⟨n0, 1, none⟩ = some (.int .u8 (bv (g8 t4 1))) := hB3.cell 1 (by rw [H4.out]; omega)
        have c2 : w3.cell? ⟨n0, 2, none⟩ = some (.int .u8 (bv (g8 t4 2))) := hB3.cell 2 (by rw [H4.out]; omega)
        have c3 : w3.cell? ⟨n0, 3, none⟩ = some (.int .u8 (bv (g8 t4 3))) := hB3.cell 3 (by rw [H4.out]; omega)
        have HN0 := Lib.hid hn0
        have HB3 := Lib.hid hB3
        have HG2 := Lib.hid hG2
        have HG3 := Lib.hid hG3
        have hgn0 : g < n0 := by omega
        have hBn0 : B ≤ n0 := by omega
        clear hB3 hG2 hG3 hR2 hn0 hs2 hs3
        refine wp_quiet_tail (fun w' => ∃ n, w' = w3.drewN n) 14 (by kernel_rfl) (by kernel_rfl) ⟨1, rfl⟩ ?_
        simp only [List.take_succ_cons, List.take_zero, List.drop_succ_cons, List.drop_zero]
        repeat (quiet_step ((go_at_call 68; exact Calls.quiet_of (box_any _ _))))
        refine wpQuiet_nil ?_
        rintro _ ⟨nq, rfl⟩
        have hR3 : Row (w3.drewN nq) n0 57 4 := (HB3.out.drewN nq).row H4.out
        go_wp2_with (first
          | (go_at_call 76; refine (mul_2 _ _).mono ?_; rintro e w' ⟨rfl, rfl⟩)
          | (refine store_blk rfl 57 _ _ rfl n0 57 4 [gbox (g8 t4 1) ^^^ p, gbox (g8 t4 2), gbox (g8 t4 3), gbox (g8 t4 0)] rfl rfl hR3 rfl (by kernel_rfl) ?_; intro w5 hB5 hG5 hs5))
        obtain ⟨t5, ht5⟩ : ∃ t, t = [gbox (g8 t4 1) ^^^ p, gbox (g8 t4 2), gbox (g8 t4 3), gbox (g8 t4 0)] := ⟨_, rfl⟩
        rw [← ht5] at hB5
        have H5 := Lib.hid (show t5.length = 4 by rw [ht5]; rfl)
        have HW5 := Lib.hid (show wturn nk m p t4 = t5 by rw [wturn, if_pos Z0.out, ht5])
        have hgn : g ≠ n0 := by omega
        have HO5 := Lib.hid (show Own w5 B (.slice (some ⟨g, 0, none⟩) L cap) W from ((((HO.out.kept HG2.out (Classical.em _)).kept HG3.out (.inr (by simp [Value.ownBlock]; exact hgn))).drewN nq).kept hG5 (.inr (by simp [Value.ownBlock]; exact hgn))))
        have HT5 := Lib.hid hB5
        have HB5 := Lib.hid (show Below B w w5 from by
          have k1 := below_none HBl.out hsz HG2.out
          have k2 := below_new k1 (by have := HG2.out.size; omega) HG3.out hBn0
          exact below_new (w1 := w3.drewN nq) ⟨k2.os, k2.tape, k2.output, k2.size, k2.block⟩ (by have := HG2.out.size; have := HG3.out.size; show B ≤ w3.heap.size; omega) hG5 hBn0)
        clear hB5 hG5 hs5 hR3 ht5 c0 c1 c2 c3 z0
        go_loopw [6, 78] (fun v k wr => ∃ kk : Nat, kk ≤ 4 ∧ k = .int .i64 kk ∧ Own wr B v (W ++ wpart W t5 nk kk) ∧ Blk wr n0 57 t5 ∧ Below B w wr) (fun _ k _ => 4 - (intOf k).toNat)
        case atStart => exact ⟨0, by omega, rfl, by rw [wpart_zero, List.append_nil]; exact HO5.out, HT5.out, HB5.out⟩
        case round =>
          clear HO5 HT5 HB5
          obtain ⟨kk, hkk, rfl, hO6, hT6, hB6⟩ := hrel
          have hl6 : (W ++ wpart W t5 nk kk).length = L + kk := by rw [List.length_append, wpart_len, HL.out]
          obtain ⟨g6, cap6, rfl, hg6, hgs6, hr6, hf6, hc6⟩ := hO6.form (by rw [hl6]; omega)
          have hne6 := hO6.ne_blk hT6 (by decide)
          rw [hl6] at hO6 hc6 hne6 ⊢
          have hsz6 := hB6.size
          rw [HBe.out] at hsz6
          have HN6 := Lib.hid hne6
          have HL6 := Lib.hid hl6
          have HO6 := Lib.hid hO6
          have HT6 := Lib.hid hT6
          have HB6 := Lib.hid hB6
          by_cases hkt : kk < 4
          · have d1 : wr.cell? ⟨g6, L + kk - 4 * nk, none⟩ = some (.int .u8 (bv (g8 W (L - 4 * nk + kk)))) := by
              have := hr6 (L + kk - 4 * nk) (by rw [hl6]; omega)
              rw [Nat.zero_add] at this
              rw [this, show L + kk - 4 * nk = L - 4 * nk + kk by omega]
              have hw : g8 (W ++ wpart W t5 nk kk) (L - 4 * nk + kk) = g8 W (L - 4 * nk + kk) := g8_app _ _ _ (by rw [HL.out]; omega)
              rw [hw]
            have d2 : wr.cell? ⟨n0, kk, none⟩ = some (.int .u8 (bv (g8 t5 kk))) := hT6.cell kk (by rw [H5.out]; omega)
            have e1 : IntKind.i64.wrap (4 * (nk : Int)) = 4 * (nk : Int) := IntWalk.i64_in _ (by omega)
            have e2 : IntKind.i64.wrap ((L : Int) + (kk : Int) - 4 * (nk : Int)) = (L : Int) + (kk : Int) - 4 * (nk : Int) := IntWalk.i64_in _ (by omega)
            have b1 : 4 * (nk : Int) ≤ (L : Int) + (kk : Int) := by omega
            have b2 : (L : Int) + (kk : Int) - 4 * (nk : Int) < (L : Int) + (kk : Int) := by omega
            have e3 : ((L : Int) + (kk : Int) - 4 * (nk : Int)).toNat = L + kk - 4 * nk := by omega
            clear hO6 hT6 hB6 hr6 hf6 hl6 hne6
            go_wp2
            have hwb : B ≤ wr.heap.size := by omega
            go_region_law (refine step_append_b hu_sl hu_u8 (by rfl) _ _ (by rfl) B _ (W ++ wpart W t5 nk kk) (L + kk) HL6.out (by rfl) (HO6.out.alloc _).drew wr.heap.size (g8 W (L - 4 * nk + kk) ^^^ g8 t5 kk) (by rfl) (by simp) (by omega) (by simp; omega) ?_; intro g7 cap7 w7 hO7 hG7 hg7)
            all_goals
              clear e1 e2 e3 b1 b2 d1 d2
              go_wp2
              go_roundw
              case rel =>
                have hv : (Value.slice (some ⟨g6, 0, none⟩) (L + kk) cap6).ownBlock = some g6 := rfl
                rw [hv] at hG7
                refine ⟨kk + 1, by omega, by go_num, ?_, ?_, ?_⟩
                · have : W ++ wpart W t5 nk (kk + 1) = W ++ wpart W t5 nk kk ++ [g8 W (L - 4 * nk + kk) ^^^ g8 t5 kk] := by rw [wpart_succ, HL.out, List.append_assoc]
                  rw [this]
                  exact hO7
                · exact ((HT6.out.alloc _).drew).old hG7 (by have := HN6.out; rw [hv] at this; simpa using this)
                · exact below_new ((HB6.out.alloc (by omega) _).drew) (by simp; omega) hG7 hg6
              case measure => simp [intOf]; omega
          · have hk4e : kk = 4 := by omega
            have HK4e := Lib.hid hk4e
            clear hO6 hT6 hB6 hr6 hf6 hl6 hne6 hk4e
            go_wp2
            go_roundw
            case rel =>
              have hE := wst_succ key W t4 t5 nk m p _ HK.out hm1 HS.out (by rw [HL.out]; exact HT4.out) HW5.out rfl
              refine ⟨m + 1, by omega, by omega, by go_num, ?_, ?_, HB6.out⟩
              · rw [hE, HK4e.out]
                have := HO6.out
                rw [HK4e.out, wpart_four] at this
                exact this
              · rw [hE]; simp only [if_pos Z0.out]
            case measure => simp [intOf]; omega
      · have z0 : ((m : Int) % (nk : Int) == 0) = false := by rw [beq_eq_false_iff_ne]; omega
        have Z0 := Lib.hid h0
        clear h0
        by_cases h8 : nk = 8 ∧ m % 8 = 4
        · have z1 : ((nk : Int) == 8) = true := by rw [beq_iff_eq]; omega
          have z2 : ((m : Int) % 8 == 4) = true := by rw [beq_iff_eq]; omega
          have Z8 := Lib.hid h8
          clear h8
          go_wp2_with (first
            | (go_at_call 76; refine (mul_2 _ _).mono ?_; rintro e w' ⟨rfl, rfl⟩)
            | (refine to_array rfl 57 _ rfl _ 4 _ _ 5 rfl (by omega) (by kernel_rfl) ?_)
            | (refine load_rd rfl 57 _ rfl g (L - 4) 4 5 t4 rfl HR4.out H4.out (by kernel_rfl) (by kernel_rfl) ?_)
            | (refine alloc_row rfl 57 rfl (.agg (Bs (List.replicate 4 0))) 4 (fun _ => by kernel_rfl) rfl ?_; intro w2 hR2 _ hG2 hs2)
            | (refine store_blk rfl 57 _ _ rfl wr.heap.size 57 4 t4 rfl rfl hR2 H4.out (by kernel_rfl) ?_; intro w3 hB3 hG3 hs3))
          obtain ⟨n0, hn0⟩ : ∃ n0, wr.heap.size = n0 := ⟨_, rfl⟩
          rw [hn0] at hB3 hG3 ⊢
          have HN0 := Lib.hid hn0
          have HB3 := Lib.hid hB3
          have HG2 := Lib.hid hG2
          have HG3 := Lib.hid hG3
          have hgn0 : g < n0 := by omega
          have hBn0 : B ≤ n0 := by omega
          have hgn : g ≠ n0 := by omega
          have hs3n : n0 < w3.heap.size := by omega
          clear hB3 hG2 hG3 hR2 hn0 hs2 hs3
          have HO3 := Lib.hid (show Own w3 B (.slice (some ⟨g, 0, none⟩) L cap) W from ((HO.out.kept HG2.out (Classical.em _)).kept HG3.out (.inr (by simp [Value.ownBlock]; exact hgn))))
          have HBw3 := Lib.hid (show Below B w w3 from by
            have k1 := below_none HBl.out hsz HG2.out
            exact below_new k1 (by have := HG2.out.size; omega) HG3.out hBn0)
          go_loopw [68] (fun k wr => ∃ kk : Nat, kk ≤ 4 ∧ k = .int .i64 kk ∧ Blk wr n0 57 (mix4 t4 kk) ∧ w3.grownBy wr (some n0)) (fun k _ => 4 - (intOf k).toNat)
          case atStart => exact ⟨0, by omega, rfl, by rw [mix4_zero _ H4.out]; exact HB3.out, grown_refl _ _⟩
          case round =>
            obtain ⟨kk, hkk, rfl, hT6, hG6⟩ := hrel
            by_cases hkt : kk < 4
            · have d2 : wr.cell? ⟨n0, kk, none⟩ = some (.int .u8 (bv (g8 t4 kk))) := by
                have := hT6.cell kk (by rw [mix4_len]; omega)
                rw [mix4_at _ _ _ hkt, if_neg (by omega)] at this
                exact this
              have f2 : wr.frozen? ⟨n0, kk, none⟩ = false := hT6.free kk
              have HT6 := Lib.hid hT6
              have HG6 := Lib.hid hG6
              clear hT6 hG6
              go_wp2_with (go_at_call 68; refine (box_any _ _).mono ?_; rintro e w' ⟨rfl, ⟨nq, rfl⟩⟩)
              go_roundw
              case rel =>
                refine ⟨kk + 1, by omega, by go_num, ?_, grown_set (grown_drewN HG6.out _) _ _⟩
                rw [← mix4_set _ _ hkt]
                exact (HT6.out.drewN nq).set kk _
              case measure => simp [intOf]; omega
            · have hk4e : kk = 4 := by omega
              obtain ⟨w5, rfl⟩ : ∃ w5 : World, w5 = wr := ⟨_, rfl⟩
              obtain ⟨t5, ht5⟩ : ∃ t, t = [gbox (g8 t4 0), gbox (g8 t4 1), gbox (g8 t4 2), gbox (g8 t4 3)] := ⟨_, rfl⟩
              have HT5 := Lib.hid (show Blk w5 n0 57 t5 from by rw [hk4e, mix4_four] at hT6; rw [ht5]; exact hT6)
              have H5 := Lib.hid (show t5.length = 4 by rw [ht5]; rfl)
              have HW5 := Lib.hid (show wturn nk m p t4 = t5 by rw [wturn, if_neg Z0.out, if_pos Z8.out, ht5])
              have HO5 := Lib.hid (show Own w5 B (.slice (some ⟨g, 0, none⟩) L cap) W from HO3.out.kept hG6 (.inr (by simp [Value.ownBlock]; exact hgn)))
              have HB5 := Lib.hid (show Below B w w5 from below_new HBw3.out (by omega) hG6 hBn0)
              clear hT6 hG6 ht5 hk4e z0 z1 z2
              go_wp2
              go_loopw [6, 78] (fun v k wr => ∃ kk : Nat, kk ≤ 4 ∧ k = .int .i64 kk ∧ Own wr B v (W ++ wpart W t5 nk kk) ∧ Blk wr n0 57 t5 ∧ Below B w wr) (fun _ k _ => 4 - (intOf k).toNat)
              case atStart => exact ⟨0, by omega, rfl, by rw [wpart_zero, List.append_nil]; exact HO5.out, HT5.out, HB5.out⟩
              case round =>
                clear HO5 HT5 HB5
                obtain ⟨kk, hkk, rfl, hO6, hT6, hB6⟩ := hrel
                have hl6 : (W ++ wpart W t5 nk kk).length = L + kk := by rw [List.length_append, wpart_len, HL.out]
                obtain ⟨g6, cap6, rfl, hg6, hgs6, hr6, hf6, hc6⟩ := hO6.form (by rw [hl6]; omega)
                have hne6 := hO6.ne_blk hT6 (by decide)
                rw [hl6] at hO6 hc6 hne6 ⊢
                have hsz6 := hB6.size
                rw [HBe.out] at hsz6
                have HN6 := Lib.hid hne6
                have HL6 := Lib.hid hl6
                have HO6 := Lib.hid hO6
                have HT6 := Lib.hid hT6
                have HB6 := Lib.hid hB6
                by_cases hkt : kk < 4
                · have d1 : wr.cell? ⟨g6, L + kk - 4 * nk, none⟩ = some (.int .u8 (bv (g8 W (L - 4 * nk + kk)))) := by
                    have := hr6 (L + kk - 4 * nk) (by rw [hl6]; omega)
                    rw [Nat.zero_add] at this
                    rw [this, show L + kk - 4 * nk = L - 4 * nk + kk by omega]
                    have hw : g8 (W ++ wpart W t5 nk kk) (L - 4 * nk + kk) = g8 W (L - 4 * nk + kk) := g8_app _ _ _ (by rw [HL.out]; omega)
                    rw [hw]
                  have d2 : wr.cell? ⟨n0, kk, none⟩ = some (.int .u8 (bv (g8 t5 kk))) := hT6.cell kk (by rw [H5.out]; omega)
                  have e1 : IntKind.i64.wrap (4 * (nk : Int)) = 4 * (nk : Int) := IntWalk.i64_in _ (by omega)
                  have e2 : IntKind.i64.wrap ((L : Int) + (kk : Int) - 4 * (nk : Int)) = (L : Int) + (kk : Int) - 4 * (nk : Int) := IntWalk.i64_in _ (by omega)
                  have b1 : 4 * (nk : Int) ≤ (L : Int) + (kk : Int) := by omega
                  have b2 : (L : Int) + (kk : Int) - 4 * (nk : Int) < (L : Int) + (kk : Int) := by omega
                  have e3 : ((L : Int) + (kk : Int) - 4 * (nk : Int)).toNat = L + kk - 4 * nk := by omega
                  clear hO6 hT6 hB6 hr6 hf6 hl6 hne6
                  go_wp2
                  have hwb : B ≤ wr.heap.size := by omega
                  go_region_law (refine step_append_b hu_sl hu_u8 (by rfl) _ _ (by rfl) B _ (W ++ wpart W t5 nk kk) (L + kk) HL6.out (by rfl) (HO6.out.alloc _).drew wr.heap.size (g8 W (L - 4 * nk + kk) ^^^ g8 t5 kk) (by rfl) (by simp) (by omega) (by simp; omega) ?_; intro g7 cap7 w7 hO7 hG7 hg7)
                  all_goals
                    clear e1 e2 e3 b1 b2 d1 d2
                    go_wp2
                    go_roundw
                    case rel =>
                      have hv : (Value.slice (some ⟨g6, 0, none⟩) (L + kk) cap6).ownBlock = some g6 := rfl
                      rw [hv] at hG7
                      refine ⟨kk + 1, by omega, by go_num, ?_, ?_, ?_⟩
                      · have : W ++ wpart W t5 nk (kk + 1) = W ++ wpart W t5 nk kk ++ [g8 W (L - 4 * nk + kk) ^^^ g8 t5 kk] := by rw [wpart_succ, HL.out, List.append_assoc]
                        rw [this]
                        exact hO7
                      · exact ((HT6.out.alloc _).drew).old hG7 (by have := HN6.out; rw [hv] at this; simpa using this)
                      · exact below_new ((HB6.out.alloc (by omega) _).drew) (by simp; omega) hG7 hg6
                    case measure => simp [intOf]; omega
                · have hk4e : kk = 4 := by omega
                  have HK4e := Lib.hid hk4e
                  clear hO6 hT6 hB6 hr6 hf6 hl6 hne6 hk4e
                  go_wp2
                  go_roundw
                  case rel =>
                    have hE := wst_succ key W t4 t5 nk m p _ HK.out hm1 HS.out (by rw [HL.out]; exact HT4.out) HW5.out rfl
                    refine ⟨m + 1, by omega, by omega, by go_num, ?_, ?_, HB6.out⟩
                    · rw [hE, HK4e.out]
                      have := HO6.out
                      rw [HK4e.out, wpart_four] at this
                      exact this
                    · rw [hE]; simp only [if_neg Z0.out]
                  case measure => simp [intOf]; omega
        · have Z8 := Lib.hid h8
          by_cases h9 : nk = 8
          · have z1 : ((nk : Int) == 8) = true := by rw [beq_iff_eq]; omega
            have z2 : ((m : Int) % 8 == 4) = false := by rw [beq_eq_false_iff_ne]; omega
            clear h8 h9
            go_wp2_with (first
              | (go_at_call 76; refine (mul_2 _ _).mono ?_; rintro e w' ⟨rfl, rfl⟩)
              | (refine to_array rfl 57 _ rfl _ 4 _ _ 5 rfl (by omega) (by kernel_rfl) ?_)
              | (refine load_rd rfl 57 _ rfl g (L - 4) 4 5 t4 rfl HR4.out H4.out (by kernel_rfl) (by kernel_rfl) ?_)
              | (refine alloc_row rfl 57 rfl (.agg (Bs (List.replicate 4 0))) 4 (fun _ => by kernel_rfl) rfl ?_; intro w2 hR2 _ hG2 hs2)
              | (refine store_blk rfl 57 _ _ rfl wr.heap.size 57 4 t4 rfl rfl hR2 H4.out (by kernel_rfl) ?_; intro w3 hB3 hG3 hs3))
            obtain ⟨n0, hn0⟩ : ∃ n0, wr.heap.size = n0 := ⟨_, rfl⟩
            rw [hn0] at hB3 hG3 ⊢
            have HN0 := Lib.hid hn0
            have HB3 := Lib.hid hB3
            have HG2 := Lib.hid hG2
            have HG3 := Lib.hid hG3
            have hgn0 : g < n0 := by omega
            have hBn0 : B ≤ n0 := by omega
            have hgn : g ≠ n0 := by omega
            have hs3n : n0 < w3.heap.size := by omega
            clear hB3 hG2 hG3 hR2 hn0 hs2 hs3
            have HO3 := Lib.hid (show Own w3 B (.slice (some ⟨g, 0, none⟩) L cap) W from ((HO.out.kept HG2.out (Classical.em _)).kept HG3.out (.inr (by simp [Value.ownBlock]; exact hgn))))
            have HBw3 := Lib.hid (show Below B w w3 from by
              have k1 := below_none HBl.out hsz HG2.out
              exact below_new k1 (by have := HG2.out.size; omega) HG3.out hBn0)
            have HT5 := Lib.hid HB3.out
            have HO5 := Lib.hid HO3.out
            have HB5 := Lib.hid HBw3.out
            obtain ⟨t5, ht5⟩ : ∃ t, t = t4 := ⟨_, rfl⟩
            have HW5 := Lib.hid (show wturn nk m p t4 = t5 by rw [wturn, if_neg Z0.out, if_neg Z8.out, ht5])
            have H5 := Lib.hid (show t5.length = 4 by rw [ht5]; exact H4.out)
            rw [← ht5] at HT5
            clear ht5 z0
            go_loopw [6, 78] (fun v k wr => ∃ kk : Nat, kk ≤ 4 ∧ k = .int .i64 kk ∧ Own wr B v (W ++ wpart W t5 nk kk) ∧ Blk wr n0 57 t5 ∧ Below B w wr) (fun _ k _ => 4 - (intOf k).toNat)
            case atStart => exact ⟨0, by omega, rfl, by rw [wpart_zero, List.append_nil]; exact HO5.out, HT5.out, HB5.out⟩
            case round =>
              clear HO5 HT5 HB5
              obtain ⟨kk, hkk, rfl, hO6, hT6, hB6⟩ := hrel
              have hl6 : (W ++ wpart W t5 nk kk).length = L + kk := by rw [List.length_append, wpart_len, HL.out]
              obtain ⟨g6, cap6, rfl, hg6, hgs6, hr6, hf6, hc6⟩ := hO6.form (by rw [hl6]; omega)
              have hne6 := hO6.ne_blk hT6 (by decide)
              rw [hl6] at hO6 hc6 hne6 ⊢
              have hsz6 := hB6.size
              rw [HBe.out] at hsz6
              have HN6 := Lib.hid hne6
              have HL6 := Lib.hid hl6
              have HO6 := Lib.hid hO6
              have HT6 := Lib.hid hT6
              have HB6 := Lib.hid hB6
              by_cases hkt : kk < 4
              · have d1 : wr.cell? ⟨g6, L + kk - 4 * nk, none⟩ = some (.int .u8 (bv (g8 W (L - 4 * nk + kk)))) := by
                  have := hr6 (L + kk - 4 * nk) (by rw [hl6]; omega)
                  rw [Nat.zero_add] at this
                  rw [this, show L + kk - 4 * nk = L - 4 * nk + kk by omega]
                  have hw : g8 (W ++ wpart W t5 nk kk) (L - 4 * nk + kk) = g8 W (L - 4 * nk + kk) := g8_app _ _ _ (by rw [HL.out]; omega)
                  rw [hw]
                have d2 : wr.cell? ⟨n0, kk, none⟩ = some (.int .u8 (bv (g8 t5 kk))) := hT6.cell kk (by rw [H5.out]; omega)
                have e1 : IntKind.i64.wrap (4 * (nk : Int)) = 4 * (nk : Int) := IntWalk.i64_in _ (by omega)
                have e2 : IntKind.i64.wrap ((L : Int) + (kk : Int) - 4 * (nk : Int)) = (L : Int) + (kk : Int) - 4 * (nk : Int) := IntWalk.i64_in _ (by omega)
                have b1 : 4 * (nk : Int) ≤ (L : Int) + (kk : Int) := by omega
                have b2 : (L : Int) + (kk : Int) - 4 * (nk : Int) < (L : Int) + (kk : Int) := by omega
                have e3 : ((L : Int) + (kk : Int) - 4 * (nk : Int)).toNat = L + kk - 4 * nk := by omega
                clear hO6 hT6 hB6 hr6 hf6 hl6 hne6
                go_wp2
                have hwb : B ≤ wr.heap.size := by omega
                go_region_law (refine step_append_b hu_sl hu_u8 (by rfl) _ _ (by rfl) B _ (W ++ wpart W t5 nk kk) (L + kk) HL6.out (by rfl) (HO6.out.alloc _).drew wr.heap.size (g8 W (L - 4 * nk + kk) ^^^ g8 t5 kk) (by rfl) (by simp) (by omega) (by simp; omega) ?_; intro g7 cap7 w7 hO7 hG7 hg7)
                all_goals
                  clear e1 e2 e3 b1 b2 d1 d2
                  go_wp2
                  go_roundw
                  case rel =>
                    have hv : (Value.slice (some ⟨g6, 0, none⟩) (L + kk) cap6).ownBlock = some g6 := rfl
                    rw [hv] at hG7
                    refine ⟨kk + 1, by omega, by go_num, ?_, ?_, ?_⟩
                    · have : W ++ wpart W t5 nk (kk + 1) = W ++ wpart W t5 nk kk ++ [g8 W (L - 4 * nk + kk) ^^^ g8 t5 kk] := by rw [wpart_succ, HL.out, List.append_assoc]
                      rw [this]
                      exact hO7
                    · exact ((HT6.out.alloc _).drew).old hG7 (by have := HN6.out; rw [hv] at this; simpa using this)
                    · exact below_new ((HB6.out.alloc (by omega) _).drew) (by simp; omega) hG7 hg6
                  case measure => simp [intOf]; omega
              · have hk4e : kk = 4 := by omega
                have HK4e := Lib.hid hk4e
                clear hO6 hT6 hB6 hr6 hf6 hl6 hne6 hk4e
                go_wp2
                go_roundw
                case rel =>
                  have hE := wst_succ key W t4 t5 nk m p _ HK.out hm1 HS.out (by rw [HL.out]; exact HT4.out) HW5.out rfl
                  refine ⟨m + 1, by omega, by omega, by go_num, ?_, ?_, HB6.out⟩
                  · rw [hE, HK4e.out]
                    have := HO6.out
                    rw [HK4e.out, wpart_four] at this
                    exact this
                  · rw [hE]; simp only [if_neg Z0.out]
                case measure => simp [intOf]; omega
          · have z1 : ((nk : Int) == 8) = false := by rw [beq_eq_false_iff_ne]; omega
            clear h8 h9
            go_wp2_with (first
              | (go_at_call 76; refine (mul_2 _ _).mono ?_; rintro e w' ⟨rfl, rfl⟩)
              | (refine to_array rfl 57 _ rfl _ 4 _ _ 5 rfl (by omega) (by kernel_rfl) ?_)
              | (refine load_rd rfl 57 _ rfl g (L - 4) 4 5 t4 rfl HR4.out H4.out (by kernel_rfl) (by kernel_rfl) ?_)
              | (refine alloc_row rfl 57 rfl (.agg (Bs (List.replicate 4 0))) 4 (fun _ => by kernel_rfl) rfl ?_; intro w2 hR2 _ hG2 hs2)
              | (refine store_blk rfl 57 _ _ rfl wr.heap.size 57 4 t4 rfl rfl hR2 H4.out (by kernel_rfl) ?_; intro w3 hB3 hG3 hs3))
            obtain ⟨n0, hn0⟩ : ∃ n0, wr.heap.size = n0 := ⟨_, rfl⟩
            rw [hn0] at hB3 hG3 ⊢
            have HN0 := Lib.hid hn0
            have HB3 := Lib.hid hB3
            have HG2 := Lib.hid hG2
            have HG3 := Lib.hid hG3
            have hgn0 : g < n0 := by omega
            have hBn0 : B ≤ n0 := by omega
            have hgn : g ≠ n0 := by omega
            have hs3n : n0 < w3.heap.size := by omega
            clear hB3 hG2 hG3 hR2 hn0 hs2 hs3
            have HO3 := Lib.hid (show Own w3 B (.slice (some ⟨g, 0, none⟩) L cap) W from ((HO.out.kept HG2.out (Classical.em _)).kept HG3.out (.inr (by simp [Value.ownBlock]; exact hgn))))
            have HBw3 := Lib.hid (show Below B w w3 from by
              have k1 := below_none HBl.out hsz HG2.out
              exact below_new k1 (by have := HG2.out.size; omega) HG3.out hBn0)
            have HT5 := Lib.hid HB3.out
            have HO5 := Lib.hid HO3.out
            have HB5 := Lib.hid HBw3.out
            obtain ⟨t5, ht5⟩ : ∃ t, t = t4 := ⟨_, rfl⟩
            have HW5 := Lib.hid (show wturn nk m p t4 = t5 by rw [wturn, if_neg Z0.out, if_neg Z8.out, ht5])
            have H5 := Lib.hid (show t5.length = 4 by rw [ht5]; exact H4.out)
            rw [← ht5] at HT5
            clear ht5 z0
            go_loopw [6, 78] (fun v k wr => ∃ kk : Nat, kk ≤ 4 ∧ k = .int .i64 kk ∧ Own wr B v (W ++ wpart W t5 nk kk) ∧ Blk wr n0 57 t5 ∧ Below B w wr) (fun _ k _ => 4 - (intOf k).toNat)
            case atStart => exact ⟨0, by omega, rfl, by rw [wpart_zero, List.append_nil]; exact HO5.out, HT5.out, HB5.out⟩
            case round =>
              clear HO5 HT5 HB5
              obtain ⟨kk, hkk, rfl, hO6, hT6, hB6⟩ := hrel
              have hl6 : (W ++ wpart W t5 nk kk).length = L + kk := by rw [List.length_append, wpart_len, HL.out]
              obtain ⟨g6, cap6, rfl, hg6, hgs6, hr6, hf6, hc6⟩ := hO6.form (by rw [hl6]; omega)
              have hne6 := hO6.ne_blk hT6 (by decide)
              rw [hl6] at hO6 hc6 hne6 ⊢
              have hsz6 := hB6.size
              rw [HBe.out] at hsz6
              have HN6 := Lib.hid hne6
              have HL6 := Lib.hid hl6
              have HO6 := Lib.hid hO6
              have HT6 := Lib.hid hT6
              have HB6 := Lib.hid hB6
              by_cases hkt : kk < 4
              · have d1 : wr.cell? ⟨g6, L + kk - 4 * nk, none⟩ = some (.int .u8 (bv (g8 W (L - 4 * nk + kk)))) := by
                  have := hr6 (L + kk - 4 * nk) (by rw [hl6]; omega)
                  rw [Nat.zero_add] at this
                  rw [this, show L + kk - 4 * nk = L - 4 * nk + kk by omega]
                  have hw : g8 (W ++ wpart W t5 nk kk) (L - 4 * nk + kk) = g8 W (L - 4 * nk + kk) := g8_app _ _ _ (by rw [HL.out]; omega)
                  rw [hw]
                have d2 : wr.cell? ⟨n0, kk, none⟩ = some (.int .u8 (bv (g8 t5 kk))) := hT6.cell kk (by rw [H5.out]; omega)
                have e1 : IntKind.i64.wrap (4 * (nk : Int)) = 4 * (nk : Int) := IntWalk.i64_in _ (by omega)
                have e2 : IntKind.i64.wrap ((L : Int) + (kk : Int) - 4 * (nk : Int)) = (L : Int) + (kk : Int) - 4 * (nk : Int) := IntWalk.i64_in _ (by omega)
                have b1 : 4 * (nk : Int) ≤ (L : Int) + (kk : Int) := by omega
                have b2 : (L : Int) + (kk : Int) - 4 * (nk : Int) < (L : Int) + (kk : Int) := by omega
                have e3 : ((L : Int) + (kk : Int) - 4 * (nk : Int)).toNat = L + kk - 4 * nk := by omega
                clear hO6 hT6 hB6 hr6 hf6 hl6 hne6
                go_wp2
                have hwb : B ≤ wr.heap.size := by omega
                go_region_law (refine step_append_b hu_sl hu_u8 (by rfl) _ _ (by rfl) B _ (W ++ wpart W t5 nk kk) (L + kk) HL6.out (by rfl) (HO6.out.alloc _).drew wr.heap.size (g8 W (L - 4 * nk + kk) ^^^ g8 t5 kk) (by rfl) (by simp) (by omega) (by simp; omega) ?_; intro g7 cap7 w7 hO7 hG7 hg7)
                all_goals
                  clear e1 e2 e3 b1 b2 d1 d2
                  go_wp2
                  go_roundw
                  case rel =>
                    have hv : (Value.slice (some ⟨g6, 0, none⟩) (L + kk) cap6).ownBlock = some g6 := rfl
                    rw [hv] at hG7
                    refine ⟨kk + 1, by omega, by go_num, ?_, ?_, ?_⟩
                    · have : W ++ wpart W t5 nk (kk + 1) = W ++ wpart W t5 nk kk ++ [g8 W (L - 4 * nk + kk) ^^^ g8 t5 kk] := by rw [wpart_succ, HL.out, List.append_assoc]
                      rw [this]
                      exact hO7
                    · exact ((HT6.out.alloc _).drew).old hG7 (by have := HN6.out; rw [hv] at this; simpa using this)
                    · exact below_new ((HB6.out.alloc (by omega) _).drew) (by simp; omega) hG7 hg6
                  case measure => simp [intOf]; omega
              · have hk4e : kk = 4 := by omega
                have HK4e := Lib.hid hk4e
                clear hO6 hT6 hB6 hr6 hf6 hl6 hne6 hk4e
                go_wp2
                go_roundw
                case rel =>
                  have hE := wst_succ key W t4 t5 nk m p _ HK.out hm1 HS.out (by rw [HL.out]; exact HT4.out) HW5.out rfl
                  refine ⟨m + 1, by omega, by omega, by go_num, ?_, ?_, HB6.out⟩
                  · rw [hE, HK4e.out]
                    have := HO6.out
                    rw [HK4e.out, wpart_four] at this
                    exact this
                  · rw [hE]; simp only [if_neg Z0.out]
                case measure => simp [intOf]; omega
    · have hme : m = 4 * (nr + 1) := by omega
      have HME := Lib.hid hme
      have HO := Lib.hid hO
      have HBl := Lib.hid hBl
      clear hO hBl hme
      go_wp2
      go_ret2
      refine ⟨_, rfl, ?_, ?_⟩
      · have := HO.out
        rw [HME.out, ← HNR.out, ← HK.out, ← HBe.out] at this
        exact this
      · rw [HBe.out]; exact HBl.out
end Go.Proofs.Ytjbdhnmkeaogcaa
