/- AES: a key's words. -/
import Derived.Test.YtbbfjlnkhenbiaaDoorKB2
set_option linter.unusedVariables false
set_option linter.unusedSimpArgs false
namespace Lk
/-- the last word, turned -/
def wturn (nk i : Nat) (p : UInt8) (t : List UInt8) : List UInt8 :=
  if i % nk = 0 then [gbox (g8 t 1) ^^^ p, gbox (g8 t 2), gbox (g8 t 3), gbox (g8 t 0)]
  else if nk = 8 ∧ i % 8 = 4 then [gbox (g8 t 0), gbox (g8 t 1), gbox (g8 t 2), gbox (g8 t 3)] else t
/-- one word more -/
def wnext (nk : Nat) (w t : List UInt8) : List UInt8 :=
  let n := w.length - 4 * nk
  w ++ [g8 w n ^^^ g8 t 0, g8 w (n + 1) ^^^ g8 t 1, g8 w (n + 2) ^^^ g8 t 2, g8 w (n + 3) ^^^ g8 t 3]
/-- the first k bytes of the new word -/
def wpart (W t : List UInt8) (nk k : Nat) : List UInt8 := (List.range k).map fun i => g8 W (W.length - 4 * nk + i) ^^^ g8 t i
theorem wpart_zero (W t : List UInt8) (nk : Nat) : wpart W t nk 0 = [] := rfl
theorem wpart_len (W t : List UInt8) (nk k : Nat) : (wpart W t nk k).length = k := by simp [wpart]
theorem wpart_succ (W t : List UInt8) (nk k : Nat) : wpart W t nk (k + 1) = wpart W t nk k ++ [g8 W (W.length - 4 * nk + k) ^^^ g8 t k] := by simp [wpart, List.range_succ]
theorem wpart_four (W t : List UInt8) (nk : Nat) : W ++ wpart W t nk 4 = wnext nk W t := rfl
theorem g8_app (l m : List UInt8) (i : Nat) (h : i < l.length) : g8 (l ++ m) i = g8 l i := by simp [g8, List.getElem?_append_left h]
def mix4 (t : List UInt8) (k : Nat) : List UInt8 := (List.range 4).map fun i => if i < k then gbox (g8 t i) else g8 t i
theorem mix4_len (t : List UInt8) (k : Nat) : (mix4 t k).length = 4 := by simp [mix4]
theorem mix4_zero (t : List UInt8) (h : t.length = 4) : mix4 t 0 = t := by
  apply List.ext_getElem
  · rw [mix4_len, h]
  · intro i h1 h2
    simp [mix4, g8, h2]
theorem mix4_at (t : List UInt8) (k i : Nat) (hi : i < 4) : g8 (mix4 t k) i = if i < k then gbox (g8 t i) else g8 t i := by simp [mix4, g8, hi]
theorem mix4_set (t : List UInt8) (k : Nat) (hk : k < 4) : (mix4 t k).set k (gbox (g8 t k)) = mix4 t (k + 1) := by
  apply List.ext_getElem
  · simp [mix4]
  · intro i h1 h2
    rw [List.getElem_set]
    simp only [mix4, List.getElem_map, List.getElem_range]
    by_cases h : k = i
    · subst h; rw [if_pos rfl, if_pos (by omega)]
    · rw [if_neg h]
      by_cases h3 : i < k
      · rw [if_pos h3, if_pos (by omega)]
      · rw [if_neg h3, if_neg (by omega)]
theorem mix4_four (t : List UInt8) : mix4 t 4 = [gbox (g8 t 0), gbox (g8 t 1), gbox (g8 t 2), gbox (g8 t 3)] := rfl
/-- the words and the power after j words more -/
def wst (key : List UInt8) : Nat → List UInt8 × UInt8
  | 0 => (key, 1)
  | j + 1 => let s := wst key j; let nk := key.length / 4
    (wnext nk s.1 (wturn nk (nk + j) s.2 (s.1.drop (s.1.length - 4))), if (nk + j) % nk = 0 then gmul s.2 2 else s.2)
theorem wst_succ (key W t4 t5 : List UInt8) (nk m : Nat) (p p' : UInt8) (hk : key.length / 4 = nk) (hm : nk ≤ m) (hs : wst key (m - nk) = (W, p)) (h4 : W.drop (W.length - 4) = t4) (h5 : wturn nk m p t4 = t5)
    (hp : (if m % nk = 0 then gmul p 2 else p) = p') : wst key (m + 1 - nk) = (wnext nk W t5, p') := by
  rw [show m + 1 - nk = (m - nk) + 1 by omega]
  simp only [wst, hs, hk]
  rw [show nk + (m - nk) = m by omega, h4, h5, hp]
def nrounds (n : Nat) : Nat := if n = 16 then 10 else if n = 24 then 12 else 14
def pwords (key : List UInt8) : List UInt8 := (wst key (4 * (nrounds key.length + 1) - key.length / 4)).1
theorem wst_len (key : List UInt8) (j : Nat) : (wst key j).1.length = key.length + 4 * j := by
  induction j with
  | zero => rfl
  | succ j ih => simp only [wst, wnext, List.length_append, List.length_cons, List.length_nil]; omega
end Lk
namespace Go.Proofs.YtbbfjlnkhenbiaaDoor
open Go.RowKit Lk
theorem mul_2 (a : UInt8) (w : World) : Calls Tryd.prog 104 #[.int .u8 (bv a), .int .u8 2] w fun e w' => e = .returned (.int .u8 (bv (gmul a 2))) ∧ w = w' := mul_any a 2 w
theorem rounds_any (A : Option Addr) (n c : Nat) (w : World) (hn : n = 16 ∨ n = 24 ∨ n = 32) : Calls Tryd.prog 83 #[.slice A n c] w fun e w' => e = .returned (.int .i64 (nrounds n)) ∧ w = w' := by
  rcases hn with rfl | rfl | rfl
  all_goals
    go_enter Tryd.func83, Tryd.ntmps83
    go_wp2
    go_ret
    exact ⟨rfl, rfl⟩
/-- what Words returns -/
def RetWords (w : World) (key : List UInt8) (e : Ending) (w' : World) : Prop := ∃ v, e = .returned (.tuple #[v, .nilIface]) ∧ Own w' w.heap.size v (pwords key) ∧ Below w.heap.size w w'
set_option maxHeartbeats 6400000 in
set_option maxRecDepth 100000 in
theorem words_any (v : Value) (key : List UInt8) (w : World) (h : SlB w v key) (hn : key.length = 16 ∨ key.length = 24 ∨ key.length = 32) : Calls Tryd.prog 82 #[v] w (RetWords w key) := by
  obtain ⟨A, c, rfl, n1, n2, n3, n4⟩ := id h
  have hkl : key.length ≤ 32 := by omega
  have hkp : 16 ≤ key.length := by omega
  have H := Lib.hid h
  have HR := Lib.hid (fun w => rounds_any A key.length c w hn)
  obtain ⟨nr, hnr⟩ : ∃ nr, nrounds key.length = nr := ⟨_, rfl⟩
  have hnr1 : 10 ≤ nr ∧ nr ≤ 14 := by unfold nrounds at hnr; split at hnr <;> (try split at hnr) <;> omega
  have hz : ((nr : Int) == 0) = false := by rw [beq_eq_false_iff_ne]; omega
  rw [hnr] at HR
  have HNR := Lib.hid hnr
  have HN := Lib.hid hn
  obtain ⟨nk, hnk⟩ : ∃ nk, key.length / 4 = nk := ⟨_, rfl⟩
  have hk4 : key.length = 4 * nk := by omega
  have hnk3 : nk = 4 ∨ nk = 6 ∨ nk = 8 := by omega
  have HK3 := Lib.hid hnk3
  have hq : ((key.length : Nat) : Int) / 4 = (nk : Int) := by omega
  have hnk4 : 4 ≤ nk := by omega
  have hnk8 : nk ≤ 8 := by omega
  have HK4 := Lib.hid hk4
  have HK := Lib.hid hnk
  clear h n1 n2 n3 n4 hnr hn hnk hk4 hnk3
  go_enter Tryd.func82, Tryd.ntmps82
  go_wp2_with (first
    | (go_at_call 83; refine (HR.out _).mono ?_; rintro e w' ⟨rfl, rfl⟩)
    | (at_builtin; refine append_b hu_sl hu_u8 rfl _ _ rfl w.heap.size _ [] rfl (own_lit0 w _ (Nat.le_refl _)) _ key rfl (H.out.alloc _) (by simp; omega) (by simp) ?_; intro v0 w1 hO hG))
  simp only [List.nil_append] at hO
  have hB1 : Below w.heap.size w w1 := below_new ((Below.refl _ _).alloc (Nat.le_refl _) _) (by simp) hG (Nat.le_refl _)
  clear hG
  obtain ⟨B, hB⟩ : ∃ B, w.heap.size = B := ⟨_, rfl⟩
  rw [hB] at hO hB1
  have HBe := Lib.hid hB
  have HO1 := Lib.hid hO
  have HB1 := Lib.hid hB1
  clear hO hB1 hB
  go_loopw [6, 7, 8] (fun v p i wr => ∃ m : Nat, nk ≤ m ∧ m ≤ 4 * (nr + 1) ∧ i = .int .i64 m ∧ Own wr B v (wst key (m - nk)).1 ∧ p = .int .u8 (bv (wst key (m - nk)).2) ∧ Below B w wr) (fun _ _ i _ => 4 * (nr + 1) - (intOf i).toNat)
  case atStart => exact ⟨nk, by omega, by omega, rfl, by rw [Nat.sub_self]; exact HO1.out, by rw [Nat.sub_self]; rfl, HB1.out⟩
  case round =>
    clear HO1 HB1
    obtain ⟨m, hm1, hm2, rfl, hO, rfl, hBl⟩ := hrel
    by_cases hlt : m < 4 * (nr + 1)
    · obtain ⟨s, hs⟩ : ∃ s, wst key (m - nk) = s := ⟨_, rfl⟩
      obtain ⟨W, p⟩ := s
      rw [hs] at hO
      dsimp only at hO
      simp only [hs]
      obtain ⟨L, hL⟩ : ∃ L, W.length = L := ⟨_, rfl⟩
      have hWl : L = 4 * m := by
        have := wst_len key (m - nk)
        rw [hs] at this
        have h4 : key.length = 4 * nk := HK4.out
        simp only at this
        omega
      have hL16 : 16 ≤ L := by omega
      have hL240 : L ≤ 240 := by omega
      have hLn : 4 * nk ≤ L := by omega
      obtain ⟨g, cap, rfl, hg, hgs, hr, hf, hc⟩ := hO.form (by omega)
      rw [hL] at hO hc ⊢
      have hsz := hBl.size
      rw [HBe.out] at hsz
      have hce : ¬ (cap = L - 4) := by omega
      have HO := Lib.hid hO
      have HR4 : Hid (Rd wr g (L - 4) (W.drop (L - 4))) := Lib.hid (fun k hk => by
        simp only [List.length_drop] at hk
        have := hr (L - 4 + k) (by omega)
        rw [Nat.zero_add] at this
        rw [this]
        simp [g8])
      have HW := Lib.hid hWl
      have HS := Lib.hid hs
      have HBl := Lib.hid hBl
      have HL := Lib.hid hL
      clear hO hr hWl hs hBl hL hf
      obtain ⟨t4, ht4⟩ : ∃ t, W.drop (L - 4) = t := ⟨_, rfl⟩
      have h44 : t4.length = 4 := by rw [← ht4, List.length_drop, HL.out]; omega
      rw [ht4] at HR4
      have H4 := Lib.hid h44
      have HT4 := Lib.hid ht4
      clear h44 ht4
      have ht : decide ((m : Int) < 4 * ((nr : Int) + 1)) = true := by simp; omega
      by_cases h0 : m % nk = 0
      · have z0 : ((m : Int) % (nk : Int) == 0) = true := by rw [beq_iff_eq]; omega
        have Z0 := Lib.hid h0
        clear h0
        go_wp2_with (first
          | (go_at_call 104; refine (mul_2 _ _).mono ?_; rintro e w' ⟨rfl, rfl⟩)
          | (refine to_array rfl 165 _ rfl _ 4 _ _ 5 rfl (by omega) (by kernel_rfl) ?_)
          | (refine load_rd rfl 165 _ rfl g (L - 4) 4 5 t4 rfl HR4.out H4.out (by kernel_rfl) (by kernel_rfl) ?_)
          | (refine alloc_row rfl 165 rfl (.agg (Bs (List.replicate 4 0))) 4 (fun _ => by kernel_rfl) rfl ?_; intro w2 hR2 _ hG2 hs2)
          | (refine store_blk rfl 165 _ _ rfl wr.heap.size 165 4 t4 rfl rfl hR2 H4.out (by kernel_rfl) ?_; intro w3 hB3 hG3 hs3))
        obtain ⟨n0, hn0⟩ : ∃ n0, wr.heap.size = n0 := ⟨_, rfl⟩
        rw [hn0] at hB3 hG3 ⊢
        have c0 : w3.cell? ⟨n0, 0, none⟩ = some (.int .u8 (bv (g8 t4 0))) := hB3.cell 0 (by rw [H4.out]; omega)
        have c1 : w3.cell? ⟨n0, 1, none⟩ = some (.int .u8 (bv (g8 t4 1))) := hB3.cell 1 (by rw [H4.out]; omega)
        have c2 : w3.cell? ⟨n0, 2, none⟩ = some (.int .u8 (bv (g8 t4 2))) := hB3.cell 2 (by rw [H4.out]; omega)
        have c3 : w3.cell? ⟨n0, 3, none⟩ = some (.int .u8 (bv (g8 t4 3))) := hB3.cell 3 (by rw [H4.out]; omega)
        have HN0 := Lib.hid hn0
        have HB3 := Lib.hid hB3
        have HG2 := Lib.hid hG2
        have HG3 := Lib.hid hG3
        have hgn0 : g < n0 := by omega
        have hBn0 : B ≤ n0 := by omega
        clear hB3 hG2 hG3 hR2 hn0 hs2 hs3
        refine wp_quiet_tail (fun w' => ∃ n, w' = w3.drewN n) 14 (by kernel_rfl) (by kernel_rfl) ⟨1, rfl⟩ ?_
        simp only [List.take_succ_cons, List.take_zero, List.drop_succ_cons, List.drop_zero]
        repeat (quiet_step ((go_at_call 89; exact Calls.quiet_of (box_any _ _))))
        refine wpQuiet_nil ?_
        rintro _ ⟨nq, rfl⟩
        have hR3 : Row (w3.drewN nq) n0 165 4 := (HB3.out.drewN nq).row H4.out
        go_wp2_with (first
          | (go_at_call 104; refine (mul_2 _ _).mono ?_; rintro e w' ⟨rfl, rfl⟩)
          | (refine store_blk rfl 165 _ _ rfl n0 165 4 [gbox (g8 t4 1) ^^^ p, gbox (g8 t4 2), gbox (g8 t4 3), gbox (g8 t4 0)] rfl rfl hR3 rfl (by kernel_rfl) ?_; intro w5 hB5 hG5 hs5))
        obtain ⟨t5, ht5⟩ : ∃ t, t = [gbox (g8 t4 1) ^^^ p, gbox (g8 t4 2), gbox (g8 t4 3), gbox (g8 t4 0)] := ⟨_, rfl⟩
        rw [← ht5] at hB5
        have H5 := Lib.hid (show t5.length = 4 by rw [ht5]; rfl)
        have HW5 := Lib.hid (show wturn nk m p t4 = t5 by rw [wturn, if_pos Z0.out, ht5])
        have hgn : g ≠ n0 := by omega
        have HO5 := Lib.hid (show Own w5 B (.slice (some ⟨g, 0, none⟩) L cap) W from ((((HO.out.kept HG2.out (Classical.em _)).kept HG3.out (.inr (by simp [Value.ownBlock]; exact hgn))).drewN nq).kept hG5 (.inr (by simp [Value.ownBlock]; exact hgn))))
        have HT5 := Lib.hid hB5
        have HB5 := Lib.hid (show Below B w w5 from by
          have k1 := below_none HBl.out hsz HG2.out
          have k2 := below_new k1 (by have := HG2.out.size; omega) HG3.out hBn0
          exact below_new (w1 := w3.drewN nq) ⟨k2.os, k2.tape, k2.output, k2.size, k2.block⟩ (by have := HG2.out.size; have := HG3.out.size; show B ≤ w3.heap.size; omega) hG5 hBn0)
        clear hB5 hG5 hs5 hR3 ht5 c0 c1 c2 c3 z0
        go_loopw [6, 78] (fun v k wr => ∃ kk : Nat, kk ≤ 4 ∧ k = .int .i64 kk ∧ Own wr B v (W ++ wpart W t5 nk kk) ∧ Blk wr n0 165 t5 ∧ Below B w wr) (fun _ k _ => 4 - (intOf k).toNat)
        case atStart => exact ⟨0, by omega, rfl, by rw [wpart_zero, List.append_nil]; exact HO5.out, HT5.out, HB5.out⟩
        case round =>
          clear HO5 HT5 HB5
          obtain ⟨kk, hkk, rfl, hO6, hT6, hB6⟩ := hrel
          have hl6 : (W ++ wpart W t5 nk kk).length = L + kk := by rw [List.length_append, wpart_len, HL.out]
          obtain ⟨g6, cap6, rfl, hg6, hgs6, hr6, hf6, hc6⟩ := hO6.form (by rw [hl6]; omega)
          have hne6 := hO6.ne_blk hT6 (by decide)
          rw [hl6] at hO6 hc6 hne6 ⊢
          have hsz6 := hB6.size
          rw [HBe.out] at hsz6
          have HN6 := Lib.hid hne6
          have HL6 := Lib.hid hl6
          have HO6 := Lib.hid hO6
          have HT6 := Lib.hid hT6
          have HB6 := Lib.hid hB6
          by_cases hkt : kk < 4
          · have d1 : wr.cell? ⟨g6, L + kk - 4 * nk, none⟩ = some (.int .u8 (bv (g8 W (L - 4 * nk + kk)))) := by
              have := hr6 (L + kk - 4 * nk) (by rw [hl6]; omega)
              rw [Nat.zero_add] at this
              rw [this, show L + kk - 4 * nk = L - 4 * nk + kk by omega]
              have hw : g8 (W ++ wpart W t5 nk kk) (L - 4 * nk + kk) = g8 W (L - 4 * nk + kk) := g8_app _ _ _ (by rw [HL.out]; omega)
              rw [hw]
            have d2 : wr.cell? ⟨n0, kk, none⟩ = some (.int .u8 (bv (g8 t5 kk))) := hT6.cell kk (by rw [H5.out]; omega)
            have e1 : IntKind.i64.wrap (4 * (nk : Int)) = 4 * (nk : Int) := IntWalk.i64_in _ (by omega)
            have e2 : IntKind.i64.wrap ((L : Int) + (kk : Int) - 4 * (nk : Int)) = (L : Int) + (kk : Int) - 4 * (nk : Int) := IntWalk.i64_in _ (by omega)
            have b1 : 4 * (nk : Int) ≤ (L : Int) + (kk : Int) := by omega
            have b2 : (L : Int) + (kk : Int) - 4 * (nk : Int) < (L : Int) + (kk : Int) := by omega
            have e3 : ((L : Int) + (kk : Int) - 4 * (nk : Int)).toNat = L + kk - 4 * nk := by omega
            clear hO6 hT6 hB6 hr6 hf6 hl6 hne6
            go_wp2
            have hwb : B ≤ wr.heap.size := by omega
            go_region_law (refine step_append_b hu_sl hu_u8 (by rfl) _ _ (by rfl) B _ (W ++ wpart W t5 nk kk) (L + kk) HL6.out (by rfl) (HO6.out.alloc _).drew wr.heap.size (g8 W (L - 4 * nk + kk) ^^^ g8 t5 kk) (by rfl) (by simp) (by omega) (by simp; omega) ?_; intro g7 cap7 w7 hO7 hG7 hg7)
            all_goals
              clear e1 e2 e3 b1 b2 d1 d2
              go_wp2
              go_roundw
              case rel =>
                have hv : (Value.slice (some ⟨g6, 0, none⟩) (L + kk) cap6).ownBlock = some g6 := rfl
                rw [hv] at hG7
                refine ⟨kk + 1, by omega, by go_num, ?_, ?_, ?_⟩
                · have : W ++ wpart W t5 nk (kk + 1) = W ++ wpart W t5 nk kk ++ [g8 W (L - 4 * nk + kk) ^^^ g8 t5 kk] := by rw [wpart_succ, HL.out, List.append_assoc]
                  rw [this]
                  exact hO7
                · exact ((HT6.out.alloc _).drew).old hG7 (by have := HN6.out; rw [hv] at this; simpa using this)
                · exact below_new ((HB6.out.alloc (by omega) _).drew) (by simp; omega) hG7 hg6
              case measure => simp [intOf]; omega
          · have hk4e : kk = 4 := by omega
            have HK4e := Lib.hid hk4e
            clear hO6 hT6 hB6 hr6 hf6 hl6 hne6 hk4e
            go_wp2
            go_roundw
            case rel =>
              have hE := wst_succ key W t4 t5 nk m p _ HK.out hm1 HS.out (by rw [HL.out]; exact HT4.out) HW5.out rfl
              refine ⟨m + 1, by omega, by omega, by go_num, ?_, ?_, HB6.out⟩
              · rw [hE, HK4e.out]
                have := HO6.out
                rw [HK4e.out, wpart_four] at this
                exact this
              · rw [hE]; simp only [if_pos Z0.out]
            case measure => simp [intOf]; omega
      · have z0 : ((m : Int) % (nk : Int) == 0) = false := by rw [beq_eq_false_iff_ne]; omega
        have Z0 := Lib.hid h0
        clear h0
        by_cases h8 : nk = 8 ∧ m % 8 = 4
        · have z1 : ((nk : Int) == 8) = true := by rw [beq_iff_eq]; omega
          have z2 : ((m : Int) % 8 == 4) = true := by rw [beq_iff_eq]; omega
          have Z8 := Lib.hid h8
          clear h8
          go_wp2_with (first
            | (go_at_call 104; refine (mul_2 _ _).mono ?_; rintro e w' ⟨rfl, rfl⟩)
            | (refine to_array rfl 165 _ rfl _ 4 _ _ 5 rfl (by omega) (by kernel_rfl) ?_)
            | (refine load_rd rfl 165 _ rfl g (L - 4) 4 5 t4 rfl HR4.out H4.out (by kernel_rfl) (by kernel_rfl) ?_)
            | (refine alloc_row rfl 165 rfl (.agg (Bs (List.replicate 4 0))) 4 (fun _ => by kernel_rfl) rfl ?_; intro w2 hR2 _ hG2 hs2)
            | (refine store_blk rfl 165 _ _ rfl wr.heap.size 165 4 t4 rfl rfl hR2 H4.out (by kernel_rfl) ?_; intro w3 hB3 hG3 hs3))
          obtain ⟨n0, hn0⟩ : ∃ n0, wr.heap.size = n0 := ⟨_, rfl⟩
          rw [hn0] at hB3 hG3 ⊢
          have HN0 := Lib.hid hn0
          have HB3 := Lib.hid hB3
          have HG2 := Lib.hid hG2
          have HG3 := Lib.hid hG3
          have hgn0 : g < n0 := by omega
          have hBn0 : B ≤ n0 := by omega
          have hgn : g ≠ n0 := by omega
          have hs3n : n0 < w3.heap.size := by omega
          clear hB3 hG2 hG3 hR2 hn0 hs2 hs3
          have HO3 := Lib.hid (show Own w3 B (.slice (some ⟨g, 0, none⟩) L cap) W from ((HO.out.kept HG2.out (Classical.em _)).kept HG3.out (.inr (by simp [Value.ownBlock]; exact hgn))))
          have HBw3 := Lib.hid (show Below B w w3 from by
            have k1 := below_none HBl.out hsz HG2.out
            exact below_new k1 (by have := HG2.out.size; omega) HG3.out hBn0)
          go_loopw [68] (fun k wr => ∃ kk : Nat, kk ≤ 4 ∧ k = .int .i64 kk ∧ Blk wr n0 165 (mix4 t4 kk) ∧ w3.grownBy wr (some n0)) (fun k _ => 4 - (intOf k).toNat)
          case atStart => exact ⟨0, by omega, rfl, by rw [mix4_zero _ H4.out]; exact HB3.out, grown_refl _ _⟩
          case round =>
            obtain ⟨kk, hkk, rfl, hT6, hG6⟩ := hrel
            by_cases hkt : kk < 4
            · have d2 : wr.cell? ⟨n0, kk, none⟩ = some (.int .u8 (bv (g8 t4 kk))) := by
                have := hT6.cell kk (by rw [mix4_len]; omega)
                rw [mix4_at _ _ _ hkt, if_neg (by omega)] at this
                exact this
              have f2 : wr.frozen? ⟨n0, kk, none⟩ = false := hT6.free kk
              have HT6 := Lib.hid hT6
              have HG6 := Lib.hid hG6
              clear hT6 hG6
              go_wp2_with (go_at_call 89; refine (box_any _ _).mono ?_; rintro e w' ⟨rfl, ⟨nq, rfl⟩⟩)
              go_roundw
              case rel =>
                refine ⟨kk + 1, by omega, by go_num, ?_, grown_set (grown_drewN HG6.out _) _ _⟩
                rw [← mix4_set _ _ hkt]
                exact (HT6.out.drewN nq).set kk _
              case measure => simp [intOf]; omega
            · have hk4e : kk = 4 := by omega
              obtain ⟨w5, rfl⟩ : ∃ w5 : World, w5 = wr := ⟨_, rfl⟩
              obtain ⟨t5, ht5⟩ : ∃ t, t = [gbox (g8 t4 0), gbox (g8 t4 1), gbox (g8 t4 2), gbox (g8 t4 3)] := ⟨_, rfl⟩
              have HT5 := Lib.hid (show Blk w5 n0 165 t5 from by rw [hk4e, mix4_four] at hT6; rw [ht5]; exact hT6)
              have H5 := Lib.hid (show t5.length = 4 by rw [ht5]; rfl)
              have HW5 := Lib.hid (show wturn nk m p t4 = t5 by rw [wturn, if_neg Z0.out, if_pos Z8.out, ht5])
              have HO5 := Lib.hid (show Own w5 B (.slice (some ⟨g, 0, none⟩) L cap) W from HO3.out.kept hG6 (.inr (by simp [Value.ownBlock]; exact hgn)))
              have HB5 := Lib.hid (show Below B w w5 from below_new HBw3.out (by omega) hG6 hBn0)
              clear hT6 hG6 ht5 hk4e z0 z1 z2
              go_wp2
              go_loopw [6, 78] (fun v k wr => ∃ kk : Nat, kk ≤ 4 ∧ k = .int .i64 kk ∧ Own wr B v (W ++ wpart W t5 nk kk) ∧ Blk wr n0 165 t5 ∧ Below B w wr) (fun _ k _ => 4 - (intOf k).toNat)
              case atStart => exact ⟨0, by omega, rfl, by rw [wpart_zero, List.append_nil]; exact HO5.out, HT5.out, HB5.out⟩
              case round =>
                clear HO5 HT5 HB5
                obtain ⟨kk, hkk, rfl, hO6, hT6, hB6⟩ := hrel
                have hl6 : (W ++ wpart W t5 nk kk).length = L + kk := by rw [List.length_append, wpart_len, HL.out]
                obtain ⟨g6, cap6, rfl, hg6, hgs6, hr6, hf6, hc6⟩ := hO6.form (by rw [hl6]; omega)
                have hne6 := hO6.ne_blk hT6 (by decide)
                rw [hl6] at hO6 hc6 hne6 ⊢
                have hsz6 := hB6.size
                rw [HBe.out] at hsz6
                have HN6 := Lib.hid hne6
                have HL6 := Lib.hid hl6
                have HO6 := Lib.hid hO6
                have HT6 := Lib.hid hT6
                have HB6 := Lib.hid hB6
                by_cases hkt : kk < 4
                · have d1 : wr.cell? ⟨g6, L + kk - 4 * nk, none⟩ = some (.int .u8 (bv (g8 W (L - 4 * nk + kk)))) := by
                    have := hr6 (L + kk - 4 * nk) (by rw [hl6]; omega)
                    rw [Nat.zero_add] at this
                    rw [this, show L + kk - 4 * nk = L - 4 * nk + kk by omega]
                    have hw : g8 (W ++ wpart W t5 nk kk) (L - 4 * nk + kk) = g8 W (L - 4 * nk + kk) := g8_app _ _ _ (by rw [HL.out]; omega)
                    rw [hw]
                  have d2 : wr.cell? ⟨n0, kk, none⟩ = some (.int .u8 (bv (g8 t5 kk))) := hT6.cell kk (by rw [H5.out]; omega)
                  have e1 : IntKind.i64.wrap (4 * (nk : Int)) = 4 * (nk : Int) := IntWalk.i64_in _ (by omega)
                  have e2 : IntKind.i64.wrap ((L : Int) + (kk : Int) - 4 * (nk : Int)) = (L : Int) + (kk : Int) - 4 * (nk : Int) := IntWalk.i64_in _ (by omega)
                  have b1 : 4 * (nk : Int) ≤ (L : Int) + (kk : Int) := by omega
                  have b2 : (L : Int) + (kk : Int) - 4 * (nk : Int) < (L : Int) + (kk : Int) := by omega
                  have e3 : ((L : Int) + (kk : Int) - 4 * (nk : Int)).toNat = L + kk - 4 * nk := by omega
                  clear hO6 hT6 hB6 hr6 hf6 hl6 hne6
                  go_wp2
                  have hwb : B ≤ wr.heap.size := by omega
                  go_region_law (refine step_append_b hu_sl hu_u8 (by rfl) _ _ (by rfl) B _ (W ++ wpart W t5 nk kk) (L + kk) HL6.out (by rfl) (HO6.out.alloc _).drew wr.heap.size (g8 W (L - 4 * nk + kk) ^^^ g8 t5 kk) (by rfl) (by simp) (by omega) (by simp; omega) ?_; intro g7 cap7 w7 hO7 hG7 hg7)
                  all_goals
                    clear e1 e2 e3 b1 b2 d1 d2
                    go_wp2
                    go_roundw
                    case rel =>
                      have hv : (Value.slice (some ⟨g6, 0, none⟩) (L + kk) cap6).ownBlock = some g6 := rfl
                      rw [hv] at hG7
                      refine ⟨kk + 1, by omega, by go_num, ?_, ?_, ?_⟩
                      · have : W ++ wpart W t5 nk (kk + 1) = W ++ wpart W t5 nk kk ++ [g8 W (L - 4 * nk + kk) ^^^ g8 t5 kk] := by rw [wpart_succ, HL.out, List.append_assoc]
                        rw [this]
                        exact hO7
                      · exact ((HT6.out.alloc _).drew).old hG7 (by have := HN6.out; rw [hv] at this; simpa using this)
                      · exact below_new ((HB6.out.alloc (by omega) _).drew) (by simp; omega) hG7 hg6
                    case measure => simp [intOf]; omega
                · have hk4e : kk = 4 := by omega
                  have HK4e := Lib.hid hk4e
                  clear hO6 hT6 hB6 hr6 hf6 hl6 hne6 hk4e
                  go_wp2
                  go_roundw
                  case rel =>
                    have hE := wst_succ key W t4 t5 nk m p _ HK.out hm1 HS.out (by rw [HL.out]; exact HT4.out) HW5.out rfl
                    refine ⟨m + 1, by omega, by omega, by go_num, ?_, ?_, HB6.out⟩
                    · rw [hE, HK4e.out]
                      have := HO6.out
                      rw [HK4e.out, wpart_four] at this
                      exact this
                    · rw [hE]; simp only [if_neg Z0.out]
                  case measure => simp [intOf]; omega
        · have Z8 := Lib.hid h8
          by_cases h9 : nk = 8
          · have z1 : ((nk : Int) == 8) = true := by rw [beq_iff_eq]; omega
            have z2 : ((m : Int) % 8 == 4) = false := by rw [beq_eq_false_iff_ne]; omega
            clear h8 h9
            go_wp2_with (first
              | (go_at_call 104; refine (mul_2 _ _).mono ?_; rintro e w' ⟨rfl, rfl⟩)
              | (refine to_array rfl 165 _ rfl _ 4 _ _ 5 rfl (by omega) (by kernel_rfl) ?_)
              | (refine load_rd rfl 165 _ rfl g (L - 4) 4 5 t4 rfl HR4.out H4.out (by kernel_rfl) (by kernel_rfl) ?_)
              | (refine alloc_row rfl 165 rfl (.agg (Bs (List.replicate 4 0))) 4 (fun _ => by kernel_rfl) rfl ?_; intro w2 hR2 _ hG2 hs2)
              | (refine store_blk rfl 165 _ _ rfl wr.heap.size 165 4 t4 rfl rfl hR2 H4.out (by kernel_rfl) ?_; intro w3 hB3 hG3 hs3))
            obtain ⟨n0, hn0⟩ : ∃ n0, wr.heap.size = n0 := ⟨_, rfl⟩
            rw [hn0] at hB3 hG3 ⊢
            have HN0 := Lib.hid hn0
            have HB3 := Lib.hid hB3
            have HG2 := Lib.hid hG2
            have HG3 := Lib.hid hG3
            have hgn0 : g < n0 := by omega
            have hBn0 : B ≤ n0 := by omega
            have hgn : g ≠ n0 := by omega
            have hs3n : n0 < w3.heap.size := by omega
            clear hB3 hG2 hG3 hR2 hn0 hs2 hs3
            have HO3 := Lib.hid (show Own w3 B (.slice (some ⟨g, 0, none⟩) L cap) W from ((HO.out.kept HG2.out (Classical.em _)).kept HG3.out (.inr (by simp [Value.ownBlock]; exact hgn))))
            have HBw3 := Lib.hid (show Below B w w3 from by
              have k1 := below_none HBl.out hsz HG2.out
              exact below_new k1 (by have := HG2.out.size; omega) HG3.out hBn0)
            have HT5 := Lib.hid HB3.out
            have HO5 := Lib.hid HO3.out
            have HB5 := Lib.hid HBw3.out
            obtain ⟨t5, ht5⟩ : ∃ t, t = t4 := ⟨_, rfl⟩
            have HW5 := Lib.hid (show wturn nk m p t4 = t5 by rw [wturn, if_neg Z0.out, if_neg Z8.out, ht5])
            have H5 := Lib.hid (show t5.length = 4 by rw [ht5]; exact H4.out)
            rw [← ht5] at HT5
            clear ht5 z0
            go_loopw [6, 78] (fun v k wr => ∃ kk : Nat, kk ≤ 4 ∧ k = .int .i64 kk ∧ Own wr B v (W ++ wpart W t5 nk kk) ∧ Blk wr n0 165 t5 ∧ Below B w wr) (fun _ k _ => 4 - (intOf k).toNat)
            case atStart => exact ⟨0, by omega, rfl, by rw [wpart_zero, List.append_nil]; exact HO5.out, HT5.out, HB5.out⟩
            case round =>
              clear HO5 HT5 HB5
              obtain ⟨kk, hkk, rfl, hO6, hT6, hB6⟩ := hrel
              have hl6 : (W ++ wpart W t5 nk kk).length = L + kk := by rw [List.length_append, wpart_len, HL.out]
              obtain ⟨g6, cap6, rfl, hg6, hgs6, hr6, hf6, hc6⟩ := hO6.form (by rw [hl6]; omega)
              have hne6 := hO6.ne_blk hT6 (by decide)
              rw [hl6] at hO6 hc6 hne6 ⊢
              have hsz6 := hB6.size
              rw [HBe.out] at hsz6
              have HN6 := Lib.hid hne6
              have HL6 := Lib.hid hl6
              have HO6 := Lib.hid hO6
              have HT6 := Lib.hid hT6
              have HB6 := Lib.hid hB6
              by_cases hkt : kk < 4
              · have d1 : wr.cell? ⟨g6, L + kk - 4 * nk, none⟩ = some (.int .u8 (bv (g8 W (L - 4 * nk + kk)))) := by
                  have := hr6 (L + kk - 4 * nk) (by rw [hl6]; omega)
                  rw [Nat.zero_add] at this
                  rw [this, show L + kk - 4 * nk = L - 4 * nk + kk by omega]
                  have hw : g8 (W ++ wpart W t5 nk kk) (L - 4 * nk + kk) = g8 W (L - 4 * nk + kk) := g8_app _ _ _ (by rw [HL.out]; omega)
                  rw [hw]
                have d2 : wr.cell? ⟨n0, kk, none⟩ = some (.int .u8 (bv (g8 t5 kk))) := hT6.cell kk (by rw [H5.out]; omega)
                have e1 : IntKind.i64.wrap (4 * (nk : Int)) = 4 * (nk : Int) := IntWalk.i64_in _ (by omega)
                have e2 : IntKind.i64.wrap ((L : Int) + (kk : Int) - 4 * (nk : Int)) = (L : Int) + (kk : Int) - 4 * (nk : Int) := IntWalk.i64_in _ (by omega)
                have b1 : 4 * (nk : Int) ≤ (L : Int) + (kk : Int) := by omega
                have b2 : (L : Int) + (kk : Int) - 4 * (nk : Int) < (L : Int) + (kk : Int) := by omega
                have e3 : ((L : Int) + (kk : Int) - 4 * (nk : Int)).toNat = L + kk - 4 * nk := by omega
                clear hO6 hT6 hB6 hr6 hf6 hl6 hne6
                go_wp2
                have hwb : B ≤ wr.heap.size := by omega
                go_region_law (refine step_append_b hu_sl hu_u8 (by rfl) _ _ (by rfl) B _ (W ++ wpart W t5 nk kk) (L + kk) HL6.out (by rfl) (HO6.out.alloc _).drew wr.heap.size (g8 W (L - 4 * nk + kk) ^^^ g8 t5 kk) (by rfl) (by simp) (by omega) (by simp; omega) ?_; intro g7 cap7 w7 hO7 hG7 hg7)
                all_goals
                  clear e1 e2 e3 b1 b2 d1 d2
                  go_wp2
                  go_roundw
                  case rel =>
                    have hv : (Value.slice (some ⟨g6, 0, none⟩) (L + kk) cap6).ownBlock = some g6 := rfl
                    rw [hv] at hG7
                    refine ⟨kk + 1, by omega, by go_num, ?_, ?_, ?_⟩
                    · have : W ++ wpart W t5 nk (kk + 1) = W ++ wpart W t5 nk kk ++ [g8 W (L - 4 * nk + kk) ^^^ g8 t5 kk] := by rw [wpart_succ, HL.out, List.append_assoc]
                      rw [this]
                      exact hO7
                    · exact ((HT6.out.alloc _).drew).old hG7 (by have := HN6.out; rw [hv] at this; simpa using this)
                    · exact below_new ((HB6.out.alloc (by omega) _).drew) (by simp; omega) hG7 hg6
                  case measure => simp [intOf]; omega
              · have hk4e : kk = 4 := by omega
                have HK4e := Lib.hid hk4e
                clear hO6 hT6 hB6 hr6 hf6 hl6 hne6 hk4e
                go_wp2
                go_roundw
                case rel =>
                  have hE := wst_succ key W t4 t5 nk m p _ HK.out hm1 HS.out (by rw [HL.out]; exact HT4.out) HW5.out rfl
                  refine ⟨m + 1, by omega, by omega, by go_num, ?_, ?_, HB6.out⟩
                  · rw [hE, HK4e.out]
                    have := HO6.out
                    rw [HK4e.out, wpart_four] at this
                    exact this
                  · rw [hE]; simp only [if_neg Z0.out]
                case measure => simp [intOf]; omega
          · have z1 : ((nk : Int) == 8) = false := by rw [beq_eq_false_iff_ne]; omega
            clear h8 h9
            go_wp2_with (first
              | (go_at_call 104; refine (mul_2 _ _).mono ?_; rintro e w' ⟨rfl, rfl⟩)
              | (refine to_array rfl 165 _ rfl _ 4 _ _ 5 rfl (by omega) (by kernel_rfl) ?_)
              | (refine load_rd rfl 165 _ rfl g (L - 4) 4 5 t4 rfl HR4.out H4.out (by kernel_rfl) (by kernel_rfl) ?_)
              | (refine alloc_row rfl 165 rfl (.agg (Bs (List.replicate 4 0))) 4 (fun _ => by kernel_rfl) rfl ?_; intro w2 hR2 _ hG2 hs2)
              | (refine store_blk rfl 165 _ _ rfl wr.heap.size 165 4 t4 rfl rfl hR2 H4.out (by kernel_rfl) ?_; intro w3 hB3 hG3 hs3))
            obtain ⟨n0, hn0⟩ : ∃ n0, wr.heap.size = n0 := ⟨_, rfl⟩
            rw [hn0] at hB3 hG3 ⊢
            have HN0 := Lib.hid hn0
            have HB3 := Lib.hid hB3
            have HG2 := Lib.hid hG2
            have HG3 := Lib.hid hG3
            have hgn0 : g < n0 := by omega
            have hBn0 : B ≤ n0 := by omega
            have hgn : g ≠ n0 := by omega
            have hs3n : n0 < w3.heap.size := by omega
            clear hB3 hG2 hG3 hR2 hn0 hs2 hs3
            have HO3 := Lib.hid (show Own w3 B (.slice (some ⟨g, 0, none⟩) L cap) W from ((HO.out.kept HG2.out (Classical.em _)).kept HG3.out (.inr (by simp [Value.ownBlock]; exact hgn))))
            have HBw3 := Lib.hid (show Below B w w3 from by
              have k1 := below_none HBl.out hsz HG2.out
              exact below_new k1 (by have := HG2.out.size; omega) HG3.out hBn0)
            have HT5 := Lib.hid HB3.out
            have HO5 := Lib.hid HO3.out
            have HB5 := Lib.hid HBw3.out
            obtain ⟨t5, ht5⟩ : ∃ t, t = t4 := ⟨_, rfl⟩
            have HW5 := Lib.hid (show wturn nk m p t4 = t5 by rw [wturn, if_neg Z0.out, if_neg Z8.out, ht5])
            have H5 := Lib.hid (show t5.length = 4 by rw [ht5]; exact H4.out)
            rw [← ht5] at HT5
            clear ht5 z0
            go_loopw [6, 78] (fun v k wr => ∃ kk : Nat, kk ≤ 4 ∧ k = .int .i64 kk ∧ Own wr B v (W ++ wpart W t5 nk kk) ∧ Blk wr n0 165 t5 ∧ Below B w wr) (fun _ k _ => 4 - (intOf k).toNat)
            case atStart => exact ⟨0, by omega, rfl, by rw [wpart_zero, List.append_nil]; exact HO5.out, HT5.out, HB5.out⟩
            case round =>
              clear HO5 HT5 HB5
              obtain ⟨kk, hkk, rfl, hO6, hT6, hB6⟩ := hrel
              have hl6 : (W ++ wpart W t5 nk kk).length = L + kk := by rw [List.length_append, wpart_len, HL.out]
              obtain ⟨g6, cap6, rfl, hg6, hgs6, hr6, hf6, hc6⟩ := hO6.form (by rw [hl6]; omega)
              have hne6 := hO6.ne_blk hT6 (by decide)
              rw [hl6] at hO6 hc6 hne6 ⊢
              have hsz6 := hB6.size
              rw [HBe.out] at hsz6
              have HN6 := Lib.hid hne6
              have HL6 := Lib.hid hl6
              have HO6 := Lib.hid hO6
              have HT6 := Lib.hid hT6
              have HB6 := Lib.hid hB6
              by_cases hkt : kk < 4
              · have d1 : wr.cell? ⟨g6, L + kk - 4 * nk, none⟩ = some (.int .u8 (bv (g8 W (L - 4 * nk + kk)))) := by
                  have := hr6 (L + kk - 4 * nk) (by rw [hl6]; omega)
                  rw [Nat.zero_add] at this
                  rw [this, show L + kk - 4 * nk = L - 4 * nk + kk by omega]
                  have hw : g8 (W ++ wpart W t5 nk kk) (L - 4 * nk + kk) = g8 W (L - 4 * nk + kk) := g8_app _ _ _ (by rw [HL.out]; omega)
                  rw [hw]
                have d2 : wr.cell? ⟨n0, kk, none⟩ = some (.int .u8 (bv (g8 t5 kk))) := hT6.cell kk (by rw [H5.out]; omega)
                have e1 : IntKind.i64.wrap (4 * (nk : Int)) = 4 * (nk : Int) := IntWalk.i64_in _ (by omega)
                have e2 : IntKind.i64.wrap ((L : Int) + (kk : Int) - 4 * (nk : Int)) = (L : Int) + (kk : Int) - 4 * (nk : Int) := IntWalk.i64_in _ (by omega)
                have b1 : 4 * (nk : Int) ≤ (L : Int) + (kk : Int) := by omega
                have b2 : (L : Int) + (kk : Int) - 4 * (nk : Int) < (L : Int) + (kk : Int) := by omega
                have e3 : ((L : Int) + (kk : Int) - 4 * (nk : Int)).toNat = L + kk - 4 * nk := by omega
                clear hO6 hT6 hB6 hr6 hf6 hl6 hne6
                go_wp2
                have hwb : B ≤ wr.heap.size := by omega
                go_region_law (refine step_append_b hu_sl hu_u8 (by rfl) _ _ (by rfl) B _ (W ++ wpart W t5 nk kk) (L + kk) HL6.out (by rfl) (HO6.out.alloc _).drew wr.heap.size (g8 W (L - 4 * nk + kk) ^^^ g8 t5 kk) (by rfl) (by simp) (by omega) (by simp; omega) ?_; intro g7 cap7 w7 hO7 hG7 hg7)
                all_goals
                  clear e1 e2 e3 b1 b2 d1 d2
                  go_wp2
                  go_roundw
                  case rel =>
                    have hv : (Value.slice (some ⟨g6, 0, none⟩) (L + kk) cap6).ownBlock = some g6 := rfl
                    rw [hv] at hG7
                    refine ⟨kk + 1, by omega, by go_num, ?_, ?_, ?_⟩
                    · have : W ++ wpart W t5 nk (kk + 1) = W ++ wpart W t5 nk kk ++ [g8 W (L - 4 * nk + kk) ^^^ g8 t5 kk] := by rw [wpart_succ, HL.out, List.append_assoc]
                      rw [this]
                      exact hO7
                    · exact ((HT6.out.alloc _).drew).old hG7 (by have := HN6.out; rw [hv] at this; simpa using this)
                    · exact below_new ((HB6.out.alloc (by omega) _).drew) (by simp; omega) hG7 hg6
                  case measure => simp [intOf]; omega
              · have hk4e : kk = 4 := by omega
                have HK4e := Lib.hid hk4e
                clear hO6 hT6 hB6 hr6 hf6 hl6 hne6 hk4e
                go_wp2
                go_roundw
                case rel =>
                  have hE := wst_succ key W t4 t5 nk m p _ HK.out hm1 HS.out (by rw [HL.out]; exact HT4.out) HW5.out rfl
                  refine ⟨m + 1, by omega, by omega, by go_num, ?_, ?_, HB6.out⟩
                  · rw [hE, HK4e.out]
                    have := HO6.out
                    rw [HK4e.out, wpart_four] at this
                    exact this
                  · rw [hE]; simp only [if_neg Z0.out]
                case measure => simp [intOf]; omega
    · have hme : m = 4 * (nr + 1) := by omega
      have HME := Lib.hid hme
      have HO := Lib.hid hO
      have HBl := Lib.hid hBl
      clear hO hBl hme
      go_wp2
      go_ret2
      refine ⟨_, rfl, ?_, ?_⟩
      · have := HO.out
        rw [HME.out, ← HNR.out, ← HK.out, ← HBe.out] at this
        exact this
      · rw [HBe.out]; exact HBl.out
end Go.Proofs.YtbbfjlnkhenbiaaDoor
set_option linter.unusedVariables false
set_option linter.unusedSimpArgs false
namespace Lk
open Go.Proofs.YtbbfjlnkhenbiaaDoor
/-- after k rounds of n -/
def encTo (ws b : List UInt8) (n : Nat) : Nat → List UInt8
  | 0 => pwith b ws 0
  | k + 1 => let s := prows (pboxes gbox (encTo ws b n k)) 1
    pwith (if k + 1 < n then pcols [2, 3, 1, 1] s else s) ws (k + 1)
def pEnc (key b : List UInt8) : List UInt8 := encTo (pwords key) b (nrounds key.length) (nrounds key.length)
/-- with k rounds of n still to come -/
def decTo (ws b : List UInt8) (n : Nat) : Nat → List UInt8
  | 0 => b
  | j + 1 => let r := n - j
    let s := pwith (decTo ws b n j) ws r
    pboxes gunbox (prows (if r < n then pcols [14, 11, 13, 9] s else s) 3)
def pDec (key b : List UInt8) : List UInt8 := pwith (decTo (pwords key) b (nrounds key.length) (nrounds key.length)) (pwords key) 0
theorem pwith_len (b ws : List UInt8) (r : Nat) : (pwith b ws r).length = 16 := upd_len _ _ _
theorem prows_len (b : List UInt8) (t : Nat) : (prows b t).length = 16 := upd_len _ _ _
theorem pcols_len (m b : List UInt8) : (pcols m b).length = 16 := upd_len _ _ _
theorem pboxes_len (f : UInt8 → UInt8) (b : List UInt8) : (pboxes f b).length = 16 := upd_len _ _ _
theorem encTo_len (ws b : List UInt8) (n k : Nat) : (encTo ws b n k).length = 16 := by cases k <;> exact pwith_len _ _ _
theorem decTo_len (ws b : List UInt8) (n j : Nat) (hb : b.length = 16) : (decTo ws b n j).length = 16 := by
  cases j
  · exact hb
  · exact pboxes_len _ _
theorem nrounds_le {n : Nat} (h : n = 16 ∨ n = 24 ∨ n = 32) : 10 ≤ nrounds n ∧ nrounds n ≤ 14 ∧ n ≤ 16 * (nrounds n + 1) ∧ 16 * (nrounds n + 1) = n + 4 * (4 * (nrounds n + 1) - n / 4) := by
  rcases h with rfl | rfl | rfl <;> decide
theorem pwords_len (key : List UInt8) (h : key.length = 16 ∨ key.length = 24 ∨ key.length = 32) : (pwords key).length = 16 * (nrounds key.length + 1) := by
  unfold pwords
  rw [wst_len]
  exact (nrounds_le h).2.2.2.symm
end Lk
namespace Go.Proofs.YtbbfjlnkhenbiaaDoor
open Go.RowKit Lk
theorem rows_1 (g T : Nat) (b : List UInt8) (w : World) (hg : Blk w g T b) (hb : b.length = 16) : Calls Tryd.prog 86 #[.pointer (some ⟨g, 0, none⟩), .int .i64 1] w fun e w' => e = .returned (.tuple #[]) ∧ Blk w' g T (prows b 1) ∧ w.grownBy w' (some g) := rows_any g T 1 b w hg hb (.inl rfl)
theorem rows_3 (g T : Nat) (b : List UInt8) (w : World) (hg : Blk w g T b) (hb : b.length = 16) : Calls Tryd.prog 86 #[.pointer (some ⟨g, 0, none⟩), .int .i64 3] w fun e w' => e = .returned (.tuple #[]) ∧ Blk w' g T (prows b 3) ∧ w.grownBy w' (some g) := rows_any g T 3 b w hg hb (.inr rfl)
theorem with_0 (g T gw ow c n : Nat) (b ws : List UInt8) (w : World) (hg : Blk w g T b) (hb : b.length = 16) (hw : Rd w gw ow ws) (hne : gw ≠ g) (hn : ws.length = n) (hr : 16 ≤ n) (hl : n ≤ 1000) :
    Calls Tryd.prog 84 #[.pointer (some ⟨g, 0, none⟩), .slice (some ⟨gw, ow, none⟩) n c, .int .i64 0] w fun e w' => e = .returned (.tuple #[]) ∧ Blk w' g T (pwith b ws 0) ∧ w.grownBy w' (some g) := by
  subst hn; exact with_any g T gw ow c 0 b ws w hg hb hw hne (by omega) hl
theorem with_r (g T gw ow c n r : Nat) (b ws : List UInt8) (w : World) (hg : Blk w g T b) (hb : b.length = 16) (hw : Rd w gw ow ws) (hne : gw ≠ g) (hn : ws.length = n) (hr : 16 * r + 16 ≤ n) (hl : n ≤ 1000) :
    Calls Tryd.prog 84 #[.pointer (some ⟨g, 0, none⟩), .slice (some ⟨gw, ow, none⟩) n c, .int .i64 r] w fun e w' => e = .returned (.tuple #[]) ∧ Blk w' g T (pwith b ws r) ∧ w.grownBy w' (some g) := by
  subst hn; exact with_any g T gw ow c r b ws w hg hb hw hne hr hl
theorem boxes_e (g T : Nat) (b : List UInt8) (w : World) (hg : Blk w g T b) (hb : b.length = 16) : Calls Tryd.prog 87 #[.pointer (some ⟨g, 0, none⟩), .func (.func 89) #[] #[]] w fun e w' => e = .returned (.tuple #[]) ∧ Blk w' g T (pboxes gbox b) ∧ w.grownBy w' (some g) :=
  boxes_any g T _ gbox box_any b w (fun _ _ => by kernel_rfl) hg hb
theorem boxes_d (g T : Nat) (b : List UInt8) (w : World) (hg : Blk w g T b) (hb : b.length = 16) : Calls Tryd.prog 87 #[.pointer (some ⟨g, 0, none⟩), .func (.func 88) #[] #[]] w fun e w' => e = .returned (.tuple #[]) ∧ Blk w' g T (pboxes gunbox b) ∧ w.grownBy w' (some g) :=
  boxes_any g T _ gunbox unbox_any b w (fun _ _ => by kernel_rfl) hg hb
theorem cols_e (g T : Nat) (b : List UInt8) (w : World) (hg : Blk w g T b) (hb : b.length = 16) : Calls Tryd.prog 85 #[.pointer (some ⟨g, 0, none⟩), .agg #[.int .u8 2, .int .u8 3, .int .u8 1, .int .u8 1]] w fun e w' => e = .returned (.tuple #[]) ∧ Blk w' g T (pcols [2, 3, 1, 1] b) ∧ w.grownBy w' (some g) :=
  columns_any g T [2, 3, 1, 1] b w hg hb rfl
theorem cols_d (g T : Nat) (b : List UInt8) (w : World) (hg : Blk w g T b) (hb : b.length = 16) : Calls Tryd.prog 85 #[.pointer (some ⟨g, 0, none⟩), .agg #[.int .u8 14, .int .u8 11, .int .u8 13, .int .u8 9]] w fun e w' => e = .returned (.tuple #[]) ∧ Blk w' g T (pcols [14, 11, 13, 9] b) ∧ w.grownBy w' (some g) :=
  columns_any g T [14, 11, 13, 9] b w hg hb rfl
set_option maxHeartbeats 3200000 in
set_option maxRecDepth 100000 in
theorem encrypt_any (v : Value) (key b : List UInt8) (w : World) (h : SlB w v key) (hn : key.length = 16 ∨ key.length = 24 ∨ key.length = 32) (hb : b.length = 16) :
    Calls Tryd.prog 56 #[v, .agg (Bs b)] w fun e w' => e = .returned (.tuple #[.agg (Bs (pEnc key b)), .nilIface]) ∧ Below w.heap.size w w' := by
  obtain ⟨A, c, rfl, n1, n2, n3, n4⟩ := id h
  obtain ⟨k1, k2, k3, k4⟩ := nrounds_le hn
  obtain ⟨nr, hnr⟩ : ∃ nr, nrounds key.length = nr := ⟨_, rfl⟩
  obtain ⟨ws, hws⟩ : ∃ ws, pwords key = ws := ⟨_, rfl⟩
  have hwl : ws.length = 16 * (nr + 1) := by rw [← hws, pwords_len key hn, hnr]
  obtain ⟨L, hL⟩ : ∃ L, ws.length = L := ⟨_, rfl⟩
  have hL1 : 16 * nr + 16 = L := by omega
  have hLle : 16 * nr + 16 ≤ L := by omega
  have hL2 : L ≤ 1000 := by omega
  have HR := Lib.hid (fun w => rounds_any A key.length c w hn)
  rw [hnr] at HR k1 k2
  have H := Lib.hid h
  have HN := Lib.hid hn
  have HB := Lib.hid hb
  have HWS := Lib.hid hws
  have HNR := Lib.hid hnr
  have HL := Lib.hid hL
  clear h hn hb hws hnr n1 n2 n3 n4 k3 k4 hwl hL hL1
  go_enter Tryd.func56, Tryd.ntmps56
  go_wp2_with (first
    | (refine box_blk rfl 41 _ rfl b rfl ?_; intro w0 hB0 hG0 hs0)
    | (refine alloc_row rfl 41 rfl (.agg (Bs (List.replicate 16 0))) 16 (fun _ => by kernel_rfl) rfl ?_; intro w1 hR1 _ hG1 hs1)
    | (go_at_call 82; refine (words_any _ key _ ((H.out.old hG0 (Classical.em _)).old hG1 (Classical.em _)) HN.out).mono ?_; rintro e w2 ⟨vw, rfl, hO, hB2⟩; rw [HWS.out] at hO; obtain ⟨gw, cw, rfl, hgw1, hgw2, hRw, _, _⟩ := hO.form (by rw [HL.out]; omega); rw [HL.out])
    | (go_at_call 83; refine (HR.out _).mono ?_; rintro e w' ⟨rfl, rfl⟩)
    | (go_at_call 84; refine (with_0 w.heap.size 41 gw 0 cw L b ws _ ?h1 HB.out hRw ?h2 HL.out ?h3 hL2).mono ?_; rotate_left 3; rintro e w3 ⟨rfl, hB3, hG3⟩))
  case h1 => exact (hB0.old hG1 (by simp)).below hB2 (by omega)
  case h2 => omega
  case h3 => omega
  obtain ⟨n, hn⟩ : ∃ n, w.heap.size = n := ⟨_, rfl⟩
  have hn1 : w0.heap.size = n + 1 := by omega
  have hgn : gw ≠ n := by omega
  have hgn1 : gw ≠ n + 1 := by omega
  have hsz : n + 2 ≤ w3.heap.size := by have := hB2.size; have := hG3.size; omega
  have hRow : Row w3 (n + 1) 41 16 := by
    rw [hn1] at hR1
    obtain ⟨old, h1, h2⟩ := hR1
    refine Row.old (w := w2) ⟨old, ?_, h2⟩ hG3 (by simp; omega)
    rw [hB2.block (n + 1) (by omega)]; exact h1
  have hRw3 : Rd w3 gw 0 ws := hRw.old hG3 (by simp; omega)
  have hBl : Below n w w3 := by
    have k0 := below_none (Below.refl n w) (by omega) hG0
    have k1 := below_none k0 (by omega) hG1
    have k2 := below_more k1 hB2 (by omega)
    exact below_new k2 (by have := hB2.size; omega) hG3 (by omega)
  rw [hn] at hB3
  simp only [hn, hn1]
  have Hn := Lib.hid hn
  clear hB0 hG0 hG1 hR1 hO hB2 hRw hG3 hs0 hs1 hgw1 hgw2 hn hn1
  go_loopw [9] (fun i wr => ∃ r : Nat, 1 ≤ r ∧ r ≤ nr + 1 ∧ i = .int .i64 r ∧ Blk wr n 41 (encTo ws b nr (r - 1)) ∧ Rd wr gw 0 ws ∧ Row wr (n + 1) 41 16 ∧ Below n w wr ∧ n + 2 ≤ wr.heap.size) (fun i _ => nr + 1 - (intOf i).toNat)
  case atStart => exact ⟨1, by omega, by omega, rfl, hB3, hRw3, hRow, hBl, hsz⟩
  case round =>
    clear hB3 hRw3 hRow hBl hsz
    obtain ⟨r, hr1, hr2, rfl, hB, hRw, hRow, hBl, hsz⟩ := hrel
    have hlen := encTo_len ws b nr (r - 1)
    obtain ⟨s, hs⟩ : ∃ s, encTo ws b nr (r - 1) = s := ⟨_, rfl⟩
    rw [hs] at hB hlen
    have HS := Lib.hid hs
    have HLs := Lib.hid hlen
    have HBl := Lib.hid hBl
    clear hs hlen hBl
    by_cases hle : r ≤ nr
    · have hti : decide ((r : Int) ≤ (nr : Int)) = true := by simp; omega
      by_cases hlt : r < nr
      · go_wp2_with (first
          | (go_at_call 87; refine (boxes_e n 41 s _ hB HLs.out).mono ?_; rintro e w4 ⟨rfl, hB4, hG4⟩)
          | (go_at_call 86; refine (rows_1 n 41 _ _ hB4 (pboxes_len _ _)).mono ?_; rintro e w5 ⟨rfl, hB5, hG5⟩)
          | (go_at_call 85; refine (cols_e n 41 _ _ hB5 (prows_len _ _)).mono ?_; rintro e w6 ⟨rfl, hB6, hG6⟩)
          | (go_at_call 84; refine (with_r n 41 gw 0 cw L r _ ws _ hB6 (pcols_len _ _) (((hRw.old hG4 (by simp; omega)).old hG5 (by simp; omega)).old hG6 (by simp; omega)) hgn HL.out (by omega) hL2).mono ?_; rintro e w7 ⟨rfl, hB7, hG7⟩))
        have hGa : wr.grownBy w7 (some n) := grown_trans (grown_trans (grown_trans hG4 hG5) hG6) hG7
        have HB7 := Lib.hid hB7
        have HRw := Lib.hid hRw
        have HGa := Lib.hid hGa
        clear hB hRw hB4 hB5 hB6 hB7 hG4 hG5 hG6 hG7 hGa
        go_roundw
        case rel =>
          refine ⟨r + 1, by omega, by omega, by go_num, ?_, HRw.out.old HGa.out (by simp; omega), hRow.old HGa.out (by simp), below_new HBl.out (by omega) HGa.out (Nat.le_refl _), by have := HGa.out.size; omega⟩
          have := HB7.out
          rw [show r + 1 - 1 = (r - 1) + 1 by omega]
          simp only [encTo, HS.out]
          rw [show r - 1 + 1 = r by omega, if_pos hlt]
          exact this
        case measure => simp [intOf]; omega
      · go_wp2_with (first
          | (go_at_call 87; refine (boxes_e n 41 s _ hB HLs.out).mono ?_; rintro e w4 ⟨rfl, hB4, hG4⟩)
          | (go_at_call 86; refine (rows_1 n 41 _ _ hB4 (pboxes_len _ _)).mono ?_; rintro e w5 ⟨rfl, hB5, hG5⟩)
          | (go_at_call 84; refine (with_r n 41 gw 0 cw L r _ ws _ hB5 (prows_len _ _) ((hRw.old hG4 (by simp; omega)).old hG5 (by simp; omega)) hgn HL.out (by omega) hL2).mono ?_; rintro e w7 ⟨rfl, hB7, hG7⟩))
        have hGa : wr.grownBy w7 (some n) := grown_trans (grown_trans hG4 hG5) hG7
        have HB7 := Lib.hid hB7
        have HRw := Lib.hid hRw
        have HGa := Lib.hid hGa
        clear hB hRw hB4 hB5 hB7 hG4 hG5 hG7 hGa
        go_roundw
        case rel =>
          refine ⟨r + 1, by omega, by omega, by go_num, ?_, HRw.out.old HGa.out (by simp; omega), hRow.old HGa.out (by simp), below_new HBl.out (by omega) HGa.out (Nat.le_refl _), by have := HGa.out.size; omega⟩
          have := HB7.out
          rw [show r + 1 - 1 = (r - 1) + 1 by omega]
          simp only [encTo, HS.out]
          rw [show r - 1 + 1 = r by omega, if_neg hlt]
          exact this
        case measure => simp [intOf]; omega
    · have hre : r = nr + 1 := by omega
      have HRE := Lib.hid hre
      have HRw := Lib.hid hRw
      clear hRw hre
      go_wp2_with (first
        | (refine load_blk rfl 41 _ rfl n 41 16 5 s rfl hB HLs.out (by kernel_rfl) (by kernel_rfl) ?_)
        | (refine store_blk rfl 41 _ _ rfl (n + 1) 41 16 s rfl rfl hRow HLs.out (by kernel_rfl) ?_; intro w8 hB8 hG8 hs8))
      have hfin : pEnc key b = s := by
        have h1 := HS.out
        rw [HRE.out, show nr + 1 - 1 = nr by omega] at h1
        unfold pEnc
        rw [HWS.out, HNR.out, h1]
      refine bodyPost_ret (results_blk rfl _ _ (n + 1) 41 16 5 s rfl hB8 HLs.out (by kernel_rfl) (by kernel_rfl)) rfl ⟨?_, ?_⟩
      · rw [hfin]; rfl
      · rw [Hn.out]; exact below_new HBl.out (by omega) hG8 (by omega)
set_option maxHeartbeats 3200000 in
set_option maxRecDepth 100000 in
theorem decrypt_any (v : Value) (key b : List UInt8) (w : World) (h : SlB w v key) (hn : key.length = 16 ∨ key.length = 24 ∨ key.length = 32) (hb : b.length = 16) :
    Calls Tryd.prog 55 #[v, .agg (Bs b)] w fun e w' => e = .returned (.tuple #[.agg (Bs (pDec key b)), .nilIface]) ∧ Below w.heap.size w w' := by
  obtain ⟨A, c, rfl, n1, n2, n3, n4⟩ := id h
  obtain ⟨k1, k2, k3, k4⟩ := nrounds_le hn
  obtain ⟨nr, hnr⟩ : ∃ nr, nrounds key.length = nr := ⟨_, rfl⟩
  obtain ⟨ws, hws⟩ : ∃ ws, pwords key = ws := ⟨_, rfl⟩
  have hwl : ws.length = 16 * (nr + 1) := by rw [← hws, pwords_len key hn, hnr]
  obtain ⟨L, hL⟩ : ∃ L, ws.length = L := ⟨_, rfl⟩
  have hL1 : 16 * nr + 16 = L := by omega
  have hLle : 16 * nr + 16 ≤ L := by omega
  have hL2 : L ≤ 1000 := by omega
  have HR := Lib.hid (fun w => rounds_any A key.length c w hn)
  rw [hnr] at HR k1 k2
  have H := Lib.hid h
  have HN := Lib.hid hn
  have HB := Lib.hid hb
  have HWS := Lib.hid hws
  have HNR := Lib.hid hnr
  have HL := Lib.hid hL
  clear h hn hb hws hnr n1 n2 n3 n4 k3 k4 hwl hL hL1
  go_enter Tryd.func55, Tryd.ntmps55
  go_wp2_with (first
    | (refine box_blk rfl 41 _ rfl b rfl ?_; intro w0 hB0 hG0 hs0)
    | (refine alloc_row rfl 41 rfl (.agg (Bs (List.replicate 16 0))) 16 (fun _ => by kernel_rfl) rfl ?_; intro w1 hR1 _ hG1 hs1)
    | (go_at_call 82; refine (words_any _ key _ ((H.out.old hG0 (Classical.em _)).old hG1 (Classical.em _)) HN.out).mono ?_; rintro e w2 ⟨vw, rfl, hO, hB2⟩; rw [HWS.out] at hO; obtain ⟨gw, cw, rfl, hgw1, hgw2, hRw, _, _⟩ := hO.form (by rw [HL.out]; omega); rw [HL.out])
    | (go_at_call 83; refine (HR.out _).mono ?_; rintro e w' ⟨rfl, rfl⟩))
  have hB3 : Blk w2 w.heap.size 41 b := (hB0.old hG1 (by simp)).below hB2 (by omega)
  obtain ⟨n, hn⟩ : ∃ n, w.heap.size = n := ⟨_, rfl⟩
  have hn1 : w0.heap.size = n + 1 := by omega
  have hgn : gw ≠ n := by omega
  have hgn1 : gw ≠ n + 1 := by omega
  have hsz : n + 2 ≤ w2.heap.size := by have := hB2.size; omega
  have hRow : Row w2 (n + 1) 41 16 := by
    rw [hn1] at hR1
    obtain ⟨old, h1, h2⟩ := hR1
    refine ⟨old, ?_, h2⟩
    rw [hB2.block (n + 1) (by omega)]; exact h1
  have hRw3 : Rd w2 gw 0 ws := hRw
  have hBl : Below n w w2 := by
    have k0 := below_none (Below.refl n w) (by omega) hG0
    have k1 := below_none k0 (by omega) hG1
    exact below_more k1 hB2 (by omega)
  rw [hn] at hB3
  simp only [hn, hn1]
  have Hn := Lib.hid hn
  clear hB0 hG0 hG1 hR1 hO hB2 hRw hs0 hs1 hgw1 hgw2 hn hn1
  go_loopw [9] (fun i wr => ∃ r : Nat, r ≤ nr ∧ i = .int .i64 r ∧ Blk wr n 41 (decTo ws b nr (nr - r)) ∧ Rd wr gw 0 ws ∧ Row wr (n + 1) 41 16 ∧ Below n w wr ∧ n + 2 ≤ wr.heap.size) (fun i _ => (intOf i).toNat)
  case atStart => exact ⟨nr, by omega, rfl, by rw [Nat.sub_self]; exact hB3, hRw3, hRow, hBl, hsz⟩
  case round =>
    clear hB3 hRw3 hRow hBl hsz
    obtain ⟨r, hr2, rfl, hB, hRw, hRow, hBl, hsz⟩ := hrel
    have hlen := decTo_len ws b nr (nr - r) HB.out
    obtain ⟨s, hs⟩ : ∃ s, decTo ws b nr (nr - r) = s := ⟨_, rfl⟩
    rw [hs] at hB hlen
    have HS := Lib.hid hs
    have HLs := Lib.hid hlen
    have HBl := Lib.hid hBl
    clear hs hlen hBl
    by_cases hle : 1 ≤ r
    · have hti : decide ((1 : Int) ≤ (r : Int)) = true := by simp; omega
      by_cases hlt : r < nr
      · go_wp2_with (first
          | (go_at_call 84; refine (with_r n 41 gw 0 cw L r _ ws _ hB HLs.out hRw hgn HL.out (by omega) hL2).mono ?_; rintro e w4 ⟨rfl, hB4, hG4⟩)
          | (go_at_call 85; refine (cols_d n 41 _ _ hB4 (pwith_len _ _ _)).mono ?_; rintro e w5 ⟨rfl, hB5, hG5⟩)
          | (go_at_call 86; refine (rows_3 n 41 _ _ hB5 (pcols_len _ _)).mono ?_; rintro e w6 ⟨rfl, hB6, hG6⟩)
          | (go_at_call 87; refine (boxes_d n 41 _ _ hB6 (prows_len _ _)).mono ?_; rintro e w7 ⟨rfl, hB7, hG7⟩))
        have hGa : wr.grownBy w7 (some n) := grown_trans (grown_trans (grown_trans hG4 hG5) hG6) hG7
        have HB7 := Lib.hid hB7
        have HRw := Lib.hid hRw
        have HGa := Lib.hid hGa
        clear hB hRw hB4 hB5 hB6 hB7 hG4 hG5 hG6 hG7 hGa
        go_roundw
        case rel =>
          refine ⟨r - 1, by omega, by go_num, ?_, HRw.out.old HGa.out (by simp; omega), hRow.old HGa.out (by simp), below_new HBl.out (by omega) HGa.out (Nat.le_refl _), by have := HGa.out.size; omega⟩
          have := HB7.out
          rw [show nr - (r - 1) = (nr - r) + 1 by omega]
          simp only [decTo, HS.out]
          rw [show nr - (nr - r) = r by omega, if_pos hlt]
          exact this
        case measure => simp [intOf]; omega
      · go_wp2_with (first
          | (go_at_call 84; refine (with_r n 41 gw 0 cw L r _ ws _ hB HLs.out hRw hgn HL.out (by omega) hL2).mono ?_; rintro e w4 ⟨rfl, hB4, hG4⟩)
          | (go_at_call 86; refine (rows_3 n 41 _ _ hB4 (pwith_len _ _ _)).mono ?_; rintro e w6 ⟨rfl, hB6, hG6⟩)
          | (go_at_call 87; refine (boxes_d n 41 _ _ hB6 (prows_len _ _)).mono ?_; rintro e w7 ⟨rfl, hB7, hG7⟩))
        have hGa : wr.grownBy w7 (some n) := grown_trans (grown_trans hG4 hG6) hG7
        have HB7 := Lib.hid hB7
        have HRw := Lib.hid hRw
        have HGa := Lib.hid hGa
        clear hB hRw hB4 hB6 hB7 hG4 hG6 hG7 hGa
        go_roundw
        case rel =>
          refine ⟨r - 1, by omega, by go_num, ?_, HRw.out.old HGa.out (by simp; omega), hRow.old HGa.out (by simp), below_new HBl.out (by omega) HGa.out (Nat.le_refl _), by have := HGa.out.size; omega⟩
          have := HB7.out
          rw [show nr - (r - 1) = (nr - r) + 1 by omega]
          simp only [decTo, HS.out]
          rw [show nr - (nr - r) = r by omega, if_neg hlt]
          exact this
        case measure => simp [intOf]; omega
    · have hre : r = 0 := by omega
      have HRE := Lib.hid hre
      clear hre
      go_wp2_with (first
        | (go_at_call 84; refine (with_0 n 41 gw 0 cw L _ ws _ hB HLs.out hRw hgn HL.out (by omega) hL2).mono ?_; rintro e w4 ⟨rfl, hB4, hG4⟩)
        | (refine load_blk rfl 41 _ rfl n 41 16 5 _ rfl hB4 (pwith_len _ _ _) (by kernel_rfl) (by kernel_rfl) ?_)
        | (refine store_blk rfl 41 _ _ rfl (n + 1) 41 16 (pwith s ws 0) rfl rfl (hRow.old hG4 (by simp)) (pwith_len _ _ _) (by kernel_rfl) ?_; intro w8 hB8 hG8 hs8))
      have hfin : pDec key b = pwith s ws 0 := by
        have h1 := HS.out
        rw [HRE.out, Nat.sub_zero] at h1
        unfold pDec
        rw [HWS.out, HNR.out, h1]
      refine bodyPost_ret (results_blk rfl _ _ (n + 1) 41 16 5 (pwith s ws 0) rfl hB8 (pwith_len _ _ _) (by kernel_rfl) (by kernel_rfl)) rfl ⟨?_, ?_⟩
      · rw [hfin]; rfl
      · rw [Hn.out]; exact below_new (below_new HBl.out (by omega) hG4 (Nat.le_refl _)) (by have := hG4.size; omega) hG8 (by omega)
end Go.Proofs.YtbbfjlnkhenbiaaDoor
set_option linter.unusedVariables false
set_option linter.unusedSimpArgs false
namespace Lk
open Go Go.RowKit
/-- whether a key of n bytes may be -/
def pfits (kind n : Nat) : Bool := if kind = 1 then n == 16 || n == 24 || n == 32 else n == 8 || n == 16 || n == 24
/-- the pointer is a cipher of this kind and key, all of it below B -/
def Cip (w : World) (B : Nat) (q : Value) (kind : Nat) (key : List UInt8) : Prop :=
  ∃ g v bk, q = .pointer (some ⟨g, 0, none⟩) ∧ g < B ∧ (∀ k, v.ownBlock = some k → k < B) ∧ w.cell? ⟨g, 0, none⟩ = some (.int .i64 kind) ∧ w.cell? ⟨g, 1, none⟩ = some v ∧ w.cell? ⟨g, 2, none⟩ = some bk ∧ SlB w v key
theorem cell_below {w w1 : World} {a : Addr} {v : Value} {B : Nat} (h : w.cell? a = some v) (hG : Below B w w1) (hb : a.block < B) : w1.cell? a = some v := by
  have := hG.block a.block hb
  simp only [World.cell?] at h ⊢
  rw [this]; exact h
theorem SlB.under {w w1 : World} {v : Value} {l : List UInt8} {B : Nat} (h : SlB w v l) (hG : Below B w w1) (hb : ∀ k, v.ownBlock = some k → k < B) : SlB w1 v l := by
  obtain ⟨A, c, rfl, h1, h2, h3, h4⟩ := h
  refine ⟨A, c, rfl, h1, h2, h3, fun hc => ?_⟩
  obtain ⟨g, o, rfl, hr⟩ := h4 hc
  exact ⟨g, o, rfl, hr.below hG (hb g rfl)⟩
theorem Cip.below {w w1 : World} {B B' : Nat} {q : Value} {kind : Nat} {key : List UInt8} (h : Cip w B q kind key) (hG : Below B' w w1) (hb : B ≤ B') : Cip w1 B q kind key := by
  obtain ⟨g, v, bk, h1, h2, h3, h4, h5, h6, h7⟩ := h
  exact ⟨g, v, bk, h1, h2, h3, cell_below h4 hG (Nat.lt_of_lt_of_le h2 hb), cell_below h5 hG (Nat.lt_of_lt_of_le h2 hb), cell_below h6 hG (Nat.lt_of_lt_of_le h2 hb), h7.under hG fun k hk => Nat.lt_of_lt_of_le (h3 k hk) hb⟩
theorem cell_alloc_new (w : World) (o : Array Value) (k : Nat) (v : Value) {T : TypeId} (h : o[k]? = some v) : (w.alloc (.cells o T)).cell? ⟨w.heap.size, k, none⟩ = some v := by
  have := cell_of_row (w.alloc (.cells o T)) w.heap.size k o T _ (heap_alloc_new w _)
  rw [this]; exact h
theorem Cip.more {w : World} {B B' : Nat} {q : Value} {kind : Nat} {key : List UInt8} (h : Cip w B q kind key) (hb : B ≤ B') : Cip w B' q kind key := by
  obtain ⟨g, v, bk, h1, h2, h3, h4⟩ := h
  exact ⟨g, v, bk, h1, Nat.lt_of_lt_of_le h2 hb, fun k hk => Nat.lt_of_lt_of_le (h3 k hk) hb, h4⟩
def psize (kind : Nat) : Nat := if kind = 2 then 8 else 16
end Lk
namespace Go.Proofs.YtbbfjlnkhenbiaaDoor
open Go.RowKit Lk
set_option maxHeartbeats 800000 in
set_option maxRecDepth 100000 in
theorem fits_any (kind n : Nat) (w : World) (hk : kind = 1 ∨ kind = 2) : Calls Tryd.prog 30 #[.int .i64 kind, .int .i64 n] w fun e w' => e = .returned (.bool (pfits kind n)) ∧ w' = w := by
  rcases hk with rfl | rfl
  · by_cases h16 : n = 16
    · subst h16
      go_enter Tryd.func30, Tryd.ntmps30
      go_wp2
      go_ret
      exact ⟨rfl, rfl⟩
    by_cases h24 : n = 24
    · subst h24
      go_enter Tryd.func30, Tryd.ntmps30
      go_wp2
      go_ret
      exact ⟨rfl, rfl⟩
    have hp := Lib.hid (show ((n : Int) == 16 || (n : Int) == 24 || (n : Int) == 32) = pfits 1 n from by
      rw [Bool.eq_iff_iff]; simp [pfits]; omega)
    have i1 : ¬ (n : Int) = 16 := by omega
    have i2 : ¬ (n : Int) = 24 := by omega
    clear h16 h24
    go_enter Tryd.func30, Tryd.ntmps30
    go_wp2
    go_ret
    exact ⟨by rw [← hp.out]; rfl, rfl⟩
  · by_cases h8 : n = 8
    · subst h8
      go_enter Tryd.func30, Tryd.ntmps30
      go_wp2
      go_ret
      exact ⟨rfl, rfl⟩
    by_cases h16 : n = 16
    · subst h16
      go_enter Tryd.func30, Tryd.ntmps30
      go_wp2
      go_ret
      exact ⟨rfl, rfl⟩
    have hp := Lib.hid (show ((n : Int) == 8 || (n : Int) == 16 || (n : Int) == 24) = pfits 2 n from by
      rw [Bool.eq_iff_iff]; simp [pfits]; omega)
    have i1 : ¬ (n : Int) = 8 := by omega
    have i2 : ¬ (n : Int) = 16 := by omega
    clear h8 h16
    go_enter Tryd.func30, Tryd.ntmps30
    go_wp2
    go_ret
    exact ⟨by rw [← hp.out]; rfl, rfl⟩
set_option maxHeartbeats 800000 in
set_option maxRecDepth 100000 in
theorem Size_any (q : Value) (kind B : Nat) (key : List UInt8) (w : World) (h : Cip w B q kind key) : Calls Tryd.prog 15 #[q] w fun e w' => e = .returned (.int .i64 (psize kind)) ∧ w' = w := by
  obtain ⟨g, v, bk, rfl, h2, h3, h4, h5, h6, h7⟩ := h
  by_cases hk : kind = 2
  · subst hk
    go_enter Tryd.func15, Tryd.ntmps15
    go_wp2
    go_ret
    exact ⟨rfl, rfl⟩
  · have i : ¬ (kind : Int) = 2 := by omega
    have hp : psize kind = 16 := by simp [psize, hk]
    rw [hp]
    clear hp
    go_enter Tryd.func15, Tryd.ntmps15
    go_wp2
    go_ret
    exact ⟨rfl, rfl⟩
/-- what New hands out -/
def Newed (w : World) (kind : Nat) (key : List UInt8) (e : Ending) (w' : World) : Prop :=
  ∃ q, e = .returned (.tuple #[q, .nilIface]) ∧ Cip w' w'.heap.size q kind key ∧ Below w.heap.size w w'
set_option maxHeartbeats 800000 in
set_option maxRecDepth 100000 in
theorem New_any (v : Value) (bp : Option Addr) (kind : Nat) (key : List UInt8) (w : World) (hk : kind = 1 ∨ kind = 2) (hf : pfits kind key.length = true) (h : SlB w v key) : Calls Tryd.prog 12 #[.int .i64 kind, v, .pointer bp] w (Newed w kind key) := by
  have hl : 0 < key.length ∧ key.length ≤ 1099511627776 := by
    rcases hk with rfl | rfl <;> simp [pfits] at hf <;> omega
  have HC := Lib.hid (clone_any v key w h hl.2)
  have HPos := Lib.hid hl.1
  have HF := Lib.hid (fits_any kind key.length w hk)
  rw [hf] at HF
  obtain ⟨A, c, rfl, hA, hlc, hcm, hr⟩ := h
  clear hA hlc hcm hr hf hl
  rcases hk with rfl | rfl
  all_goals
    go_enter Tryd.func12, Tryd.ntmps12
    go_wp2_with (first
      | (go_at_call 30; refine HF.out.mono ?_; rintro e w0 ⟨rfl, rfl⟩)
      | (go_at_call 31; refine HC.out.mono ?_; rintro e w1 ⟨v1, rfl, hO, hL⟩; have HO := Lib.hid hO; obtain ⟨g1, c1, rfl, _, _, _, _, _⟩ := hO.form HPos.out))
    have HO' := HO.out
    have hlt := HO'.lt g1 rfl
    go_ret2
    refine ⟨_, rfl, ⟨w1.heap.size, _, .pointer bp, rfl, ?_, ?_, cell_alloc_new _ _ 0 _ rfl, cell_alloc_new _ _ 1 _ rfl, cell_alloc_new _ _ 2 _ rfl, HO'.slB.alloc _⟩, ?_⟩
    · show w1.heap.size < (w1.heap.push _).size; simp
    · intro k hk
      have : k = g1 := by simpa [Value.ownBlock] using hk.symm
      subst this
      show k < (w1.heap.push _).size; simp; omega
    · exact below_none hL hL.size (grown_alloc (grown_refl w1 none) _)
end Go.Proofs.YtbbfjlnkhenbiaaDoor
set_option linter.unusedVariables false
set_option linter.unusedSimpArgs false
namespace Lk
open Go Go.RowKit
section
variable {P : Program} {ops : Array Oper} {C : World → Prop} {Q : Act → Prop} {a : Act} {o : Oper} {rest : List Oper}
/-- a load of one cell that is the same in each world of the class -/
theorem quiet_cell (hw : Region.wanted o (yielded ops a.tmps) = true) (u : Value) (ty : TypeId) (x : Operand) (ho : o.op = .load ty x) (ad : Addr) (hx : a.eval x = .pointer (some ad)) (hl : ∀ w, w.cell? ad = some u → (loadVar ty ad : Sem Value).run P w = .ok u w)
    (hc : ∀ w, C w → w.cell? ad = some u) (hk : wpQuiet P ops C Q rest (a.put o.dst u)) : wpQuiet P ops C Q (o :: rest) a :=
  wpQuiet_step fun K hK => by
    rw [if_pos hw]
    refine ⟨u, fun w hC => ?_, hK _ hk⟩
    unfold Oper.quietAt execOp
    simp only [ho, hx, Instr.loadAt, Instr.sureAddr, Sem.run_bind, Sem.run_pure, Result.andThen_ok, hl w (hc w hC)]
    exact ⟨rfl, rfl⟩
end
/-- a block, enciphered or deciphered -/
def pdo (kind : Nat) (key b : List UInt8) (back : Bool) : List UInt8 := if kind = 2 then ptriple key b back else bif back then pDec key b else pEnc key b
theorem pEnc_len (key b : List UInt8) (h : b.length = 16) : (pEnc key b).length = 16 := encTo_len _ _ _ _
theorem pDec_len (key b : List UInt8) (h : b.length = 16) : (pDec key b).length = 16 := pwith_len _ _ _
theorem pfits_16 {n : Nat} (h : pfits 1 n = true) : n = 16 ∨ n = 24 ∨ n = 32 := by simpa [pfits, or_assoc] using h
end Lk
namespace Go.Proofs.YtbbfjlnkhenbiaaDoor
open Go.RowKit Lk
theorem load_sl (w : World) (ad : Addr) (u : Value) (h : w.cell? ad = some u) : (loadVar 22 ad : Sem Value).run Tryd.prog w = .ok u w := by
  simp [loadVar, go_sem, h]
set_option maxHeartbeats 1600000 in
set_option maxRecDepth 100000 in
theorem wide_any (q : Value) (B : Nat) (key b : List UInt8) (back : Bool) (w : World) (h : Cip w B q 1 key) (hB : B ≤ w.heap.size) (hf : pfits 1 key.length = true) (hb : b.length = 16) :
    Calls Tryd.prog 34 #[q, .agg (Bs b), .bool back] w fun e w' => e = .returned (.tuple #[.agg (Bs (pdo 1 key b back)), .nilIface]) ∧ Below w.heap.size w w' := by
  obtain ⟨n, hn⟩ : ∃ n, w.heap.size = n := ⟨_, rfl⟩
  have Hn := Lib.hid hn
  have HNB := Lib.hid hb
  have HF := Lib.hid (pfits_16 hf)
  have HC := Lib.hid h
  obtain ⟨g, v, bk, rfl, h2, h3, h4, h5, h6, h7⟩ := h
  have HV := Lib.hid h7
  have H3 := Lib.hid h3
  clear h7 h6 h3 hf
  cases back
  · go_enter Tryd.func34, Tryd.ntmps34
    go_wp2_with (first
      | ((with_reducible show wpList _ _ _ _ _ w); refine box_blk (w := w) rfl 41 _ rfl b rfl ?_; intro w0 hB0 hG0 hs0; have h40 := cell_old h4 hG0 (by simp); have h50 := cell_old h5 hG0 (by simp))
      | ((with_reducible show wpList _ _ _ _ _ w0); refine alloc_row (w := w0) rfl 41 rfl (.agg (Bs (List.replicate 16 0))) 16 (fun _ => by kernel_rfl) rfl ?_; intro w1 hR1 _ hG1 hs1; have h41 := cell_old h40 hG1 (by simp); have h51 := cell_old h50 hG1 (by simp)))
    have hc1 : Blk w1 n 41 b := by rw [hn] at hB0; exact hB0.old hG1 (by simp)
    have hRn : Row w1 (n + 1) 41 16 := by have e0 : w0.heap.size = n + 1 := (by omega); rw [e0] at hR1; exact hR1
    have hL1 : Below n w w1 := below_none (below_none (Below.refl n w) (by omega) hG0) (by omega) hG1
    have hN : n + 2 = w1.heap.size := by omega
    obtain ⟨N, eN⟩ : ∃ N, w1.heap.size = N := ⟨_, rfl⟩
    have hdr : Below N w1 w1.drew := by rw [← eN]; exact below_drew _
    have hgB : ∀ w', Below N w1 w' → Below n w w' := fun w' h => below_more hL1 h (by omega)
    refine wp_quiet_tail (fun w' => Below N w1 w') 8 (by kernel_rfl) (by kernel_rfl) hdr ?_
    simp only [List.take_succ_cons, List.take_zero, List.drop_succ_cons, List.drop_zero]
    refine quiet_val (by kernel_rfl) (.pointer (some ⟨g, 0, none⟩)) (fun w => by kernel_rfl) ?_
    refine quiet_val (by kernel_rfl) (.pointer (some ⟨g, 0, none⟩)) (fun w => by kernel_rfl) ?_
    refine quiet_val (by kernel_rfl) (.pointer (some ⟨g, 1, none⟩)) (fun w => by kernel_rfl) ?_
    refine quiet_cell (by kernel_rfl) v 22 _ rfl ⟨g, 1, none⟩ (by kernel_rfl) (fun w h => load_sl w _ _ h) (fun w' hw' => cell_below h51 hw' (by show g < N; omega)) ?_
    refine quiet_load (by kernel_rfl) 41 _ rfl n 0 16 5 b (by kernel_rfl) (fun w' hw' => (by
        have h := (hc1.below hw' (by omega)).rd 0 16 (by rw [HNB.out]; omega)
        rw [List.drop_zero, List.take_of_length_le (by rw [HNB.out]; omega)] at h
        exact h)) HNB.out (by kernel_rfl) (by kernel_rfl) ?_
    refine quiet_enter (by kernel_rfl) 56 #[v, .agg (Bs b)] (.tuple #[.agg (Bs (pEnc key b)), .nilIface]) (fun w => by kernel_rfl) (fun w' hw' => (encrypt_any v key b w' (HV.out.under (hgB w' hw') (fun k hk => by have := H3.out k hk; omega)) HF.out HNB.out).mono fun _ _ ⟨k1, k2⟩ => ⟨k1, below_more hw' k2 (by have := hw'.size; omega)⟩) ?_
    refine quiet_val (by kernel_rfl) (.agg (Bs (pEnc key b))) (fun w => by kernel_rfl) ?_
    refine quiet_val (by kernel_rfl) .nilIface (fun w => by kernel_rfl) ?_
    refine wpQuiet_nil ?_
    intro w5 hG5
    simp only [Act.put, List.setIfInBounds_toArray, List.set_cons_succ, List.set_cons_zero]
    go_wp2_with (refine store_blk (w := w5) rfl 41 _ _ rfl (n + 1) 41 16 (pEnc key b) rfl rfl (hRn.below hG5 (by omega)) (pEnc_len key b HNB.out) (by kernel_rfl) ?_; intro w6 hB6 hG6 hs6)
    refine bodyPost_ret (results_blk rfl _ _ (n + 1) 41 16 5 (pEnc key b) rfl hB6 (pEnc_len key b HNB.out) (by kernel_rfl) (by kernel_rfl)) rfl ⟨rfl, ?_⟩
    rw [Hn.out]
    have h5s := hG5.size
    exact below_new (below_more hL1 hG5 (by omega)) (by omega) hG6 (by omega)
  · go_enter Tryd.func34, Tryd.ntmps34
    go_wp2_with (first
      | ((with_reducible show wpList _ _ _ _ _ w); refine box_blk (w := w) rfl 41 _ rfl b rfl ?_; intro w0 hB0 hG0 hs0; have h40 := cell_old h4 hG0 (by simp); have h50 := cell_old h5 hG0 (by simp))
      | ((with_reducible show wpList _ _ _ _ _ w0); refine alloc_row (w := w0) rfl 41 rfl (.agg (Bs (List.replicate 16 0))) 16 (fun _ => by kernel_rfl) rfl ?_; intro w1 hR1 _ hG1 hs1; have h41 := cell_old h40 hG1 (by simp); have h51 := cell_old h50 hG1 (by simp)))
    have hc1 : Blk w1 n 41 b := by rw [hn] at hB0; exact hB0.old hG1 (by simp)
    have hRn : Row w1 (n + 1) 41 16 := by have e0 : w0.heap.size = n + 1 := (by omega); rw [e0] at hR1; exact hR1
    have hL1 : Below n w w1 := below_none (below_none (Below.refl n w) (by omega) hG0) (by omega) hG1
    have hN : n + 2 = w1.heap.size := by omega
    obtain ⟨N, eN⟩ : ∃ N, w1.heap.size = N := ⟨_, rfl⟩
    have hdr : Below N w1 w1.drew := by rw [← eN]; exact below_drew _
    have hgB : ∀ w', Below N w1 w' → Below n w w' := fun w' h => below_more hL1 h (by omega)
    refine wp_quiet_tail (fun w' => Below N w1 w') 8 (by kernel_rfl) (by kernel_rfl) hdr ?_
    simp only [List.take_succ_cons, List.take_zero, List.drop_succ_cons, List.drop_zero]
    refine quiet_val (by kernel_rfl) (.pointer (some ⟨g, 0, none⟩)) (fun w => by kernel_rfl) ?_
    refine quiet_val (by kernel_rfl) (.pointer (some ⟨g, 0, none⟩)) (fun w => by kernel_rfl) ?_
    refine quiet_val (by kernel_rfl) (.pointer (some ⟨g, 1, none⟩)) (fun w => by kernel_rfl) ?_
    refine quiet_cell (by kernel_rfl) v 22 _ rfl ⟨g, 1, none⟩ (by kernel_rfl) (fun w h => load_sl w _ _ h) (fun w' hw' => cell_below h51 hw' (by show g < N; omega)) ?_
    refine quiet_load (by kernel_rfl) 41 _ rfl n 0 16 5 b (by kernel_rfl) (fun w' hw' => (by
        have h := (hc1.below hw' (by omega)).rd 0 16 (by rw [HNB.out]; omega)
        rw [List.drop_zero, List.take_of_length_le (by rw [HNB.out]; omega)] at h
        exact h)) HNB.out (by kernel_rfl) (by kernel_rfl) ?_
    refine quiet_enter (by kernel_rfl) 55 #[v, .agg (Bs b)] (.tuple #[.agg (Bs (pDec key b)), .nilIface]) (fun w => by kernel_rfl) (fun w' hw' => (decrypt_any v key b w' (HV.out.under (hgB w' hw') (fun k hk => by have := H3.out k hk; omega)) HF.out HNB.out).mono fun _ _ ⟨k1, k2⟩ => ⟨k1, below_more hw' k2 (by have := hw'.size; omega)⟩) ?_
    refine quiet_val (by kernel_rfl) (.agg (Bs (pDec key b))) (fun w => by kernel_rfl) ?_
    refine quiet_val (by kernel_rfl) .nilIface (fun w => by kernel_rfl) ?_
    refine wpQuiet_nil ?_
    intro w5 hG5
    simp only [Act.put, List.setIfInBounds_toArray, List.set_cons_succ, List.set_cons_zero]
    go_wp2_with (refine store_blk (w := w5) rfl 41 _ _ rfl (n + 1) 41 16 (pDec key b) rfl rfl (hRn.below hG5 (by omega)) (pDec_len key b HNB.out) (by kernel_rfl) ?_; intro w6 hB6 hG6 hs6)
    refine bodyPost_ret (results_blk rfl _ _ (n + 1) 41 16 5 (pDec key b) rfl hB6 (pDec_len key b HNB.out) (by kernel_rfl) (by kernel_rfl)) rfl ⟨rfl, ?_⟩
    rw [Hn.out]
    have h5s := hG5.size
    exact below_new (below_more hL1 hG5 (by omega)) (by omega) hG6 (by omega)
end Go.Proofs.YtbbfjlnkhenbiaaDoor
set_option linter.unusedVariables false
set_option linter.unusedSimpArgs false
namespace Lk
open Go Go.RowKit
theorem ptriple_len (key b : List UInt8) (back : Bool) : (ptriple key b back).length = 8 := by
  unfold ptriple
  split
  · exact dblock_len _ _ _
  · cases back <;> exact dblock_len _ _ _
theorem pdo_len (kind : Nat) (key b : List UInt8) (back : Bool) (hk : kind = 1 ∨ kind = 2) : (pdo kind key b back).length = psize kind := by
  rcases hk with rfl | rfl
  · cases back
    · exact encTo_len _ _ _ _
    · exact pwith_len _ _ _
  · exact ptriple_len _ _ _
theorem pfits_8 {n : Nat} (h : pfits 2 n = true) : n = 8 ∨ n = 16 ∨ n = 24 := by simpa [pfits, or_assoc] using h
theorem okParts_of {key : List UInt8} (h : pfits 2 key.length = true) : okParts key = true := by
  rcases pfits_8 h with h | h | h <;> simp [okParts, h]
/-- a slice of a whole new row of bytes -/
def New (w : World) (base : Nat) (v : Value) (l : List UInt8) : Prop := ∃ g T, v = .slice (some ⟨g, 0, none⟩) l.length l.length ∧ base ≤ g ∧ Blk w g T l
theorem New.slB {w : World} {base : Nat} {v : Value} {l : List UInt8} (h : New w base v l) (hl : l.length ≤ maxLen) : SlB w v l := by
  obtain ⟨g, T, rfl, hb, hB⟩ := h
  refine ⟨_, _, rfl, fun h => (by cases h), Nat.le_refl _, hl, fun _ => ⟨g, 0, rfl, fun k hk => ?_⟩⟩
  rw [Nat.zero_add]; exact hB.cell k hk
/-- the same, out of an array: no block of single bytes -/
def NewA (w : World) (base : Nat) (v : Value) (l : List UInt8) : Prop := ∃ g T, T ≠ u8t ∧ v = .slice (some ⟨g, 0, none⟩) l.length l.length ∧ base ≤ g ∧ Blk w g T l
theorem NewA.new {w : World} {base : Nat} {v : Value} {l : List UInt8} (h : NewA w base v l) : New w base v l := by
  obtain ⟨g, T, _, h1, h2, h3⟩ := h; exact ⟨g, T, h1, h2, h3⟩
end Lk
namespace Go.Proofs.YtbbfjlnkhenbiaaDoor
open Go.RowKit Lk
set_option maxHeartbeats 1600000 in
set_option maxRecDepth 100000 in
theorem Do_any1 (q vb : Value) (B : Nat) (key b : List UInt8) (back : Bool) (w : World) (h : Cip w B q 1 key) (hB : B ≤ w.heap.size) (hf : pfits 1 key.length = true) (hs : SlB w vb b) (hb : b.length = 16) :
    Calls Tryd.prog 17 #[q, vb, .bool back] w fun e w' => ∃ v, e = .returned (.tuple #[v, .nilIface]) ∧ NewA w' w.heap.size v (pdo 1 key b back) ∧ Below w.heap.size w w' := by
  obtain ⟨n, hn⟩ : ∃ n, w.heap.size = n := ⟨_, rfl⟩
  have Hn := Lib.hid hn
  have HNB := Lib.hid hb
  have HS := Lib.hid (Size_any q 1 B key w h)
  have HW := Lib.hid (wide_any q B key b back w h hB hf hb)
  obtain ⟨r, er⟩ : ∃ r, pdo 1 key b back = r := ⟨_, rfl⟩
  have hrl := pdo_len 1 key b back (.inl rfl)
  rw [er] at hrl HW ⊢
  have HRL := Lib.hid (show r.length = 16 from hrl)
  obtain ⟨g, v, bk, rfl, h2, h3, h4, h5, h6, h7⟩ := h
  obtain ⟨A, c, rfl, hA, hlc, hcm, hr⟩ := hs
  rw [hb] at hlc ⊢
  obtain ⟨gb, ob, rfl, hrd⟩ := hr (by omega)
  have HRD := Lib.hid hrd
  clear h7 h6 h3 hf hr hrd hA er hrl hb h5
  go_enter Tryd.func17, Tryd.ntmps17
  go_wp2_with (first
    | (go_at_call 15; refine HS.out.mono ?_; rintro e w0 ⟨rfl, rfl⟩)
    | (refine to_array rfl 41 _ rfl (some ⟨gb, ob, none⟩) 16 16 _ 5 rfl (by omega) (by kernel_rfl) ?_)
    | (refine load_rd rfl 41 _ rfl gb ob 16 5 b rfl HRD.out HNB.out (by kernel_rfl) (by kernel_rfl) ?_)
    | (go_at_call 34; refine HW.out.mono ?_; rintro e w1 ⟨rfl, hG1⟩)
    | ((with_reducible show wpList _ _ _ _ _ w1); refine alloc_row (w := w1) rfl 41 rfl (.agg (Bs (List.replicate 16 0))) 16 (fun _ => by kernel_rfl) rfl ?_; intro w2 hR2 _ hG2 hs2)
    | ((with_reducible show wpList _ _ _ _ _ w2); refine store_blk (w := w2) rfl 41 _ _ rfl w1.heap.size 41 16 r rfl rfl hR2 HRL.out (by kernel_rfl) ?_; intro w3 hB3 hG3 hs3))
  go_ret2
  have h1s := hG1.size
  refine ⟨_, rfl, ⟨w1.heap.size, 41, by decide, by rw [HRL.out]; rfl, hG1.size, hB3⟩, ?_⟩
  exact below_new (below_none hG1 (by omega) hG2) (by omega) hG3 (by omega)
end Go.Proofs.YtbbfjlnkhenbiaaDoor
