/- The block cipher AES: a block enciphered and deciphered. -/
import Derived.Test.YtjbdhnmkeaogcaaWords
set_option linter.unusedVariables false
set_option linter.unusedSimpArgs false
namespace Lk
open Go.Proofs.Ytjbdhnmkeaogcaa
/-- after k rounds of n -/
def encTo (ws b : List UInt8) (n : Nat) : Nat → List UInt8
  | 0 => pwith b ws 0
  | k + 1 => let s := prows (pboxes gbox (encTo ws b n k)) 1
    pwith (if k + 1 < n then pcols [2, 3, 1, 1] s else s) ws (k + 1)
def pEnc (key b : List UInt8) : List UInt8 := encTo (pwords key) b (nrounds key.length) (nrounds key.length)
/-- with k rounds of n still to come -/
def decTo (ws b : List UInt8) (n : Nat) : Nat → List UInt8
  | 0 => b
  | j + 1 => let r := n - j
    let s := pwith (decTo ws b n j) ws r
    pboxes gunbox (prows (if r < n then pcols [14, 11, 13, 9] s else s) 3)
def pDec (key b : List UInt8) : List UInt8 := pwith (decTo (pwords key) b (nrounds key.length) (nrounds key.length)) (pwords key) 0
theorem pwith_len (b ws : List UInt8) (r : Nat) : (pwith b ws r).length = 16 := upd_len _ _ _
theorem prows_len (b : List UInt8) (t : Nat) : (prows b t).length = 16 := upd_len _ _ _
theorem pcols_len (m b : List UInt8) : (pcols m b).length = 16 := upd_len _ _ _
theorem pboxes_len (f : UInt8 → UInt8) (b : List UInt8) : (pboxes f b).length = 16 := upd_len _ _ _
theorem encTo_len (ws b : List UInt8) (n k : Nat) : (encTo ws b n k).length = 16 := by cases k <;> exact pwith_len _ _ _
theorem decTo_len (ws b : List UInt8) (n j : Nat) (hb : b.length = 16) : (decTo ws b n j).length = 16 := by
  cases j
  · exact hb
  · exact pboxes_len _ _
theorem nrounds_le {n : Nat} (h : n = 16 ∨ n = 24 ∨ n = 32) : 10 ≤ nrounds n ∧ nrounds n ≤ 14 ∧ n ≤ 16 * (nrounds n + 1) ∧ 16 * (nrounds n + 1) = n + 4 * (4 * (nrounds n + 1) - n / 4) := by
  rcases h with rfl | rfl | rfl <;> decide
theorem pwords_len (key : List UInt8) (h : key.length = 16 ∨ key.length = 24 ∨ key.length = 32) : (pwords key).length = 16 * (nrounds key.length + 1) := by
  unfold pwords
  rw [wst_len]
  exact (nrounds_le h).2.2.2.symm
end Lk
namespace Go.Proofs.Ytjbdhnmkeaogcaa
open Go.RowKit Lk
theorem rows_1 (g T : Nat) (b : List UInt8) (w : World) (hg : Blk w g T b) (hb : b.length = 16) : Calls Try.prog 65 #[.pointer (some ⟨g, 0, none⟩), .int .i64 1] w fun e w' => e = .returned (.tuple #[]) ∧ Blk w' g T (prows b 1) ∧ w.grownBy w' (some g) := rows_any g T 1 b w hg hb (.inl rfl)
theorem rows_3 (g T : Nat) (b : List UInt8) (w : World) (hg : Blk w g T b) (hb : b.length = 16) : Calls Try.prog 65 #[.pointer (some ⟨g, 0, none⟩), .int .i64 3] w fun e w' => e = .returned (.tuple #[]) ∧ Blk w' g T (prows b 3) ∧ w.grownBy w' (some g) := rows_any g T 3 b w hg hb (.inr rfl)
theorem with_0 (g T gw ow c n : Nat) (b ws : List UInt8) (w : World) (hg : Blk w g T b) (hb : b.length = 16) (hw : Rd w gw ow ws) (hne : gw ≠ g) (hn : ws.length = n) (hr : 16 ≤ n) (hl : n ≤ 1000) :
    Calls Try.prog 63 #[.pointer (some ⟨g, 0, none⟩), .slice (some ⟨gw, ow, none⟩) n c, .int .i64 0] w fun e w' => e = .returned (.tuple #[]) ∧ Blk w' g T (pwith b ws 0) ∧ w.grownBy w' (some g) := by
  subst hn; exact with_any g T gw ow c 0 b ws w hg hb hw hne (by omega) hl
theorem with_r (g T gw ow c n r : Nat) (b ws : List UInt8) (w : World) (hg : Blk w g T b) (hb : b.length = 16) (hw : Rd w gw ow ws) (hne : gw ≠ g) (hn : ws.length = n) (hr : 16 * r + 16 ≤ n) (hl : n ≤ 1000) :
    Calls Try.prog 63 #[.pointer (some ⟨g, 0, none⟩), .slice (some ⟨gw, ow, none⟩) n c, .int .i64 r] w fun e w' => e = .returned (.tuple #[]) ∧ Blk w' g T (pwith b ws r) ∧ w.grownBy w' (some g) := by
  subst hn; exact with_any g T gw ow c r b ws w hg hb hw hne hr hl
theorem boxes_e (g T : Nat) (b : List UInt8) (w : World) (hg : Blk w g T b) (hb : b.length = 16) : Calls Try.prog 66 #[.pointer (some ⟨g, 0, none⟩), .func (.func 68) #[] #[]] w fun e w' => e = .returned (.tuple #[]) ∧ Blk w' g T (pboxes gbox b) ∧ w.grownBy w' (some g) :=
  boxes_any g T _ gbox box_any b w (fun _ _ => by kernel_rfl) hg hb
theorem boxes_d (g T : Nat) (b : List UInt8) (w : World) (hg : Blk w g T b) (hb : b.length = 16) : Calls Try.prog 66 #[.pointer (some ⟨g, 0, none⟩), .func (.func 67) #[] #[]] w fun e w' => e = .returned (.tuple #[]) ∧ Blk w' g T (pboxes gunbox b) ∧ w.grownBy w' (some g) :=
  boxes_any g T _ gunbox unbox_any b w (fun _ _ => by kernel_rfl) hg hb
theorem cols_e (g T : Nat) (b : List UInt8) (w : World) (hg : Blk w g T b) (hb : b.length = 16) : Calls Try.prog 64 #[.pointer (some ⟨g, 0, none⟩), .agg #[.int .u8 2, .int .u8 3, .int .u8 1, .int .u8 1]] w fun e w' => e = .returned (.tuple #[]) ∧ Blk w' g T (pcols [2, 3, 1, 1] b) ∧ w.grownBy w' (some g) :=
  columns_any g T [2, 3, 1, 1] b w hg hb rfl
theorem cols_d (g T : Nat) (b : List UInt8) (w : World) (hg : Blk w g T b) (hb : b.length = 16) : Calls Try.prog 64 #[.pointer (some ⟨g, 0, none⟩), .agg #[.int .u8 14, .int .u8 11, .int .u8 13, .int .u8 9]] w fun e w' => e = .returned (.tuple #[]) ∧ Blk w' g T (pcols [14, 11, 13, 9] b) ∧ w.grownBy w' (some g) :=
  columns_any g T [14, 11, 13, 9] b w hg hb rfl
set_option maxHeartbeats 3200000 in
set_option maxRecDepth 100000 in
theorem encrypt_any (v : Value) (key b : List UInt8) (w : World) (h : SlB w v key) (hn : key.length = 16 ∨ key.length = 24 ∨ key.length = 32) (hb : b.length = 16) :
    Calls Try.prog 46 #[v, .agg (Bs b)] w fun e w' => e = .returned (.tuple #[.agg (Bs (pEnc key b)), .nilIface]) ∧ Below w.heap.size w w' := by
  obtain ⟨A, c, rfl, n1, n2, n3, n4⟩ := id h
  obtain ⟨k1, k2, k3, k4⟩ := nrounds_le hn
  obtain ⟨nr, hnr⟩ : ∃ nr, nrounds key.length = nr := ⟨_, rfl⟩
  obtain ⟨ws, hws⟩ : ∃ ws, pwords key = ws := ⟨_, rfl⟩
  have hwl : ws.length = 16 * (nr + 1) := by rw [← hws, pwords_len key hn, hnr]
  obtain ⟨L, hL⟩ : ∃ L, ws.length = L := ⟨_, rfl⟩
  have hL1 : 16 * nr + 16 = L := by omega
  have hLle : 16 * nr + 16 ≤ L := by omega
  have hL2 : L ≤ 1000 := by omega
  have HR := Lib.hid (fun w => rounds_any A key.length c w hn)
  rw [hnr] at HR k1 k2
  have H := Lib.hid h
  have HN := Lib.hid hn
  have HB := Lib.hid hb
  have HWS := Lib.hid hws
  have HNR := Lib.hid hnr
  have HL := Lib.hid hL
  clear h hn hb hws hnr n1 n2 n3 n4 k3 k4 hwl hL hL1
  go_enter Try.func46, Try.ntmps46
  go_wp2_with (first
    | (refine box_blk rfl 40 _ rfl b rfl ?_; intro w0 hB0 hG0 hs0)
    | (refine alloc_row rfl 40 rfl (.agg (Bs (List.replicate 16 0))) 16 (fun _ => by kernel_rfl) rfl ?_; intro w1 hR1 _ hG1 hs1)
    | (go_at_call 61; refine (words_any _ key _ ((H.out.old hG0 (Classical.em _)).old hG1 (Classical.em _)) HN.out).mono ?_; rintro e w2 ⟨vw, rfl, hO, hB2⟩; rw [HWS.out] at hO; obtain ⟨gw, cw, rfl, hgw1, hgw2, hRw, _, _⟩ := hO.form (by rw [HL.out]; omega); rw [HL.out])
    | (go_at_call 62; refine (HR.out _).mono ?_; rintro e w' ⟨rfl, rfl⟩)
    | (go_at_call 63; refine (with_0 w.heap.size 40 gw 0 cw L b ws _ ?h1 HB.out hRw ?h2 HL.out ?h3 hL2).mono ?_; rotate_left 3; rintro e w3 ⟨rfl, hB3, hG3⟩))
  case h1 => exact (hB0.old hG1 (by simp)).below hB2 (by omega)
  case h2 => omega
  case h3 => omega
  obtain ⟨n, hn⟩ : ∃ n, w.heap.size = n := ⟨_, rfl⟩
  have hn1 : w0.heap.size = n + 1 := by omega
  have hgn : gw ≠ n := by omega
  have hgn1 : gw ≠ n + 1 := by omega
  have hsz : n + 2 ≤ w3.heap.size := by have := hB2.size; have := hG3.size; omega
  have hRow : Row w3 (n + 1) 40 16 := by
    rw [hn1] at hR1
    obtain ⟨old, h1, h2⟩ := hR1
    refine Row.old (w := w2) ⟨old, ?_, h2⟩ hG3 (by simp; omega)
    rw [hB2.block (n + 1) (by omega)]; exact h1
  have hRw3 : Rd w3 gw 0 ws := hRw.old hG3 (by simp; omega)
  have hBl : Below n w w3 := by
    have k0 := below_none (Below.refl n w) (by omega) hG0
    have k1 := below_none k0 (by omega) hG1
    have k2 := below_more k1 hB2 (by omega)
    exact below_new k2 (by have := hB2.size; omega) hG3 (by omega)
  rw [hn] at hB3
  simp only [hn, hn1]
  have Hn := Lib.hid hn
  clear hB0 hG0 hG1 hR1 hO hB2 hRw hG3 hs0 hs1 hgw1 hgw2 hn hn1
  go_loopw [9] (fun i wr => ∃ r : Nat, 1 ≤ r ∧ r ≤ nr + 1 ∧ i = .int .i64 r ∧ Blk wr n 40 (encTo ws b nr (r - 1)) ∧ Rd wr gw 0 ws ∧ Row wr (n + 1) 40 16 ∧ Below n w wr ∧ n + 2 ≤ wr.heap.size) (fun i _ => nr + 1 - (intOf i).toNat)
  case atStart => exact ⟨1, by omega, by omega, rfl, hB3, hRw3, hRow, hBl, hsz⟩
  case round =>
    clear hB3 hRw3 hRow hBl hsz
    obtain ⟨r, hr1, hr2, rfl, hB, hRw, hRow, hBl, hsz⟩ := hrel
    have hlen := encTo_len ws b nr (r - 1)
    obtain ⟨s, hs⟩ : ∃ s, encTo ws b nr (r - 1) = s := ⟨_, rfl⟩
    rw [hs] at hB hlen
    have HS := Lib.hid hs
    have HLs := Lib.hid hlen
    have HBl := Lib.hid hBl
    clear hs hlen hBl
    by_cases hle : r ≤ nr
    · have hti : decide ((r : Int) ≤ (nr : Int)) = true := by simp; omega
      by_cases hlt : r < nr
      · go_wp2_with (first
          | (go_at_call 66; refine (boxes_e n 40 s _ hB HLs.out).mono ?_; rintro e w4 ⟨rfl, hB4, hG4⟩)
          | (go_at_call 65; refine (rows_1 n 40 _ _ hB4 (pboxes_len _ _)).mono ?_; rintro e w5 ⟨rfl, hB5, hG5⟩)
          | (go_at_call 64; refine (cols_e n 40 _ _ hB5 (prows_len _ _)).mono ?_; rintro e w6 ⟨rfl, hB6, hG6⟩)
          | (go_at_call 63; refine (with_r n 40 gw 0 cw L r _ ws _ hB6 (pcols_len _ _) (((hRw.old hG4 (by simp; omega)).old hG5 (by simp; omega)).old hG6 (by simp; omega)) hgn HL.out (by omega) hL2).mono ?_; rintro e w7 ⟨rfl, hB7, hG7⟩))
        have hGa : wr.grownBy w7 (some n) := grown_trans (grown_trans (grown_trans hG4 hG5) hG6) hG7
        have HB7 := Lib.hid hB7
        have HRw := Lib.hid hRw
        have HGa := Lib.hid hGa
        clear hB hRw hB4 hB5 hB6 hB7 hG4 hG5 hG6 hG7 hGa
        go_roundw
        case rel =>
          refine ⟨r + 1, by omega, by omega, by go_num, ?_, HRw.out.old HGa.out (by simp; omega), hRow.old HGa.out (by simp), below_new HBl.out (by omega) HGa.out (Nat.le_refl _), by have := HGa.out.size; omega⟩
          have := HB7.out
          rw [show r + 1 - 1 = (r - 1) + 1 by omega]
          simp only [encTo, HS.out]
          rw [show r - 1 + 1 = r by omega, if_pos hlt]
          exact this
        case measure => simp [intOf]; omega
      · go_wp2_with (first
          | (go_at_call 66; refine (boxes_e n 40 s _ hB HLs.out).mono ?_; rintro e w4 ⟨rfl, hB4, hG4⟩)
          | (go_at_call 65; refine (rows_1 n 40 _ _ hB4 (pboxes_len _ _)).mono ?_; rintro e w5 ⟨rfl, hB5, hG5⟩)
          | (go_at_call 63; refine (with_r n 40 gw 0 cw L r _ ws _ hB5 (prows_len _ _) ((hRw.old hG4 (by simp; omega)).old hG5 (by simp; omega)) hgn HL.out (by omega) hL2).mono ?_; rintro e w7 ⟨rfl, hB7, hG7⟩))
        have hGa : wr.grownBy w7 (some n) := grown_trans (grown_trans hG4 hG5) hG7
        have HB7 := Lib.hid hB7
        have HRw := Lib.hid hRw
        have HGa := Lib.hid hGa
        clear hB hRw hB4 hB5 hB7 hG4 hG5 hG7 hGa
        go_roundw
        case rel =>
          refine ⟨r + 1, by omega, by omega, by go_num, ?_, HRw.out.old HGa.out (by simp; omega), hRow.old HGa.out (by simp), below_new HBl.out (by omega) HGa.out (Nat.le_refl _), by have := HGa.out.size; omega⟩
          have := HB7.out
          rw [show r + 1 - 1 = (r - 1) + 1 by omega]
          simp only [encTo, HS.out]
          rw [show r - 1 + 1 = r by omega, if_neg hlt]
          exact this
        case measure => simp [intOf]; omega
    · have hre : r = nr + 1 := by omega
      have HRE := Lib.hid hre
      have HRw := Lib.hid hRw
      clear hRw hre
      go_wp2_with (first
        | (refine load_blk rfl 40 _ rfl n 40 16 5 s rfl hB HLs.out (by kernel_rfl) (by kernel_rfl) ?_)
        | (refine store_blk rfl 40 _ _ rfl (n + 1) 40 16 s rfl rfl hRow HLs.out (by kernel_rfl) ?_; intro w8 hB8 hG8 hs8))
      have hfin : pEnc key b = s := by
        have h1 := HS.out
        rw [HRE.out, show nr + 1 - 1 = nr by omega] at h1
        unfold pEnc
        rw [HWS.out, HNR.out, h1]
      refine bodyPost_ret (results_blk rfl _ _ (n + 1) 40 16 5 s rfl hB8 HLs.out (by kernel_rfl) (by kernel_rfl)) rfl ⟨?_, ?_⟩
      · rw [hfin]; rfl
      · rw [Hn.out]; exact below_new HBl.out (by omega) hG8 (by omega)
set_option maxHeartbeats 3200000 in
set_option maxRecDepth 100000 in
theorem decrypt_any (v : Value) (key b : List UInt8) (w : World) (h : SlB w v key) (hn : key.length = 16 ∨ key.length = 24 ∨ key.length = 32) (hb : b.length = 16) :
    Calls Try.prog 45 #[v, .agg (Bs b)] w fun e w' => e = .returned (.tuple #[.agg (Bs (pDec key b)), .nilIface]) ∧ Below w.heap.size w w' := by
  obtain ⟨A, c, rfl, n1, n2, n3, n4⟩ := id h
  obtain ⟨k1, k2, k3, k4⟩ := nrounds_le hn
  obtain ⟨nr, hnr⟩ : ∃ nr, nrounds key.length = nr := ⟨_, rfl⟩
  obtain ⟨ws, hws⟩ : ∃ ws, pwords key = ws := ⟨_, rfl⟩
  have hwl : ws.length = 16 * (nr + 1) := by rw [← hws, pwords_len key hn, hnr]
  obtain ⟨L, hL⟩ : ∃ L, ws.length = L := ⟨_, rfl⟩
  have hL1 : 16 * nr + 16 = L := by omega
  have hLle : 16 * nr + 16 ≤ L := by omega
  have hL2 : L ≤ 1000 := by omega
  have HR := Lib.hid (fun w => rounds_any A key.length c w hn)
  rw [hnr] at HR k1 k2
  have H := Lib.hid h
  have HN := Lib.hid hn
  have HB := Lib.hid hb
  have HWS := Lib.hid hws
  have HNR := Lib.hid hnr
  have HL := Lib.hid hL
  clear h hn hb hws hnr n1 n2 n3 n4 k3 k4 hwl hL hL1
  go_enter Try.func45, Try.ntmps45
  go_wp2_with (first
    | (refine box_blk rfl 40 _ rfl b rfl ?_; intro w0 hB0 hG0 hs0)
    | (refine alloc_row rfl 40 rfl (.agg (Bs (List.replicate 16 0))) 16 (fun _ => by kernel_rfl) rfl ?_; intro w1 hR1 _ hG1 hs1)
    | (go_at_call 61; refine (words_any _ key _ ((H.out.old hG0 (Classical.em _)).old hG1 (Classical.em _)) HN.out).mono ?_; rintro e w2 ⟨vw, rfl, hO, hB2⟩; rw [HWS.out] at hO; obtain ⟨gw, cw, rfl, hgw1, hgw2, hRw, _, _⟩ := hO.form (by rw [HL.out]; omega); rw [HL.out])
    | (go_at_call 62; refine (HR.out _).mono ?_; rintro e w' ⟨rfl, rfl⟩))
  have hB3 : Blk w2 w.heap.size 40 b := (hB0.old hG1 (by simp)).below hB2 (by omega)
  obtain ⟨n, hn⟩ : ∃ n, w.heap.size = n := ⟨_, rfl⟩
  have hn1 : w0.heap.size = n + 1 := by omega
  have hgn : gw ≠ n := by omega
  have hgn1 : gw ≠ n + 1 := by omega
  have hsz : n + 2 ≤ w2.heap.size := by have := hB2.size; omega
  have hRow : Row w2 (n + 1) 40 16 := by
    rw [hn1] at hR1
    obtain ⟨old, h1, h2⟩ := hR1
    refine ⟨old, ?_, h2⟩
    rw [hB2.block (n + 1) (by omega)]; exact h1
  have hRw3 : Rd w2 gw 0 ws := hRw
  have hBl : Below n w w2 := by
    have k0 := below_none (Below.refl n w) (by omega) hG0
    have k1 := below_none k0 (by omega) hG1
    exact below_more k1 hB2 (by omega)
  rw [hn] at hB3
  simp only [hn, hn1]
  have Hn := Lib.hid hn
  clear hB0 hG0 hG1 hR1 hO hB2 hRw hs0 hs1 hgw1 hgw2 hn hn1
  go_loopw [9] (fun i wr => ∃ r : Nat, r ≤ nr ∧ i = .int .i64 r ∧ Blk wr n 40 (decTo ws b nr (nr - r)) ∧ Rd wr gw 0 ws ∧ Row wr (n + 1) 40 16 ∧ Below n w wr ∧ n + 2 ≤ wr.heap.size) (fun i _ => (intOf i).toNat)
  case atStart => exact ⟨nr, by omega, rfl, by rw [Nat.sub_self]; exact hB3, hRw3, hRow, hBl, hsz⟩
  case round =>
    clear hB3 hRw3 hRow hBl hsz
    obtain ⟨r, hr2, rfl, hB, hRw, hRow, hBl, hsz⟩ := hrel
    have hlen := decTo_len ws b nr (nr - r) HB.out
    obtain ⟨s, hs⟩ : ∃ s, decTo ws b nr (nr - r) = s := ⟨_, rfl⟩
    rw [hs] at hB hlen
    have HS := Lib.hid hs
    have HLs := Lib.hid hlen
    have HBl := Lib.hid hBl
    clear hs hlen hBl
    by_cases hle : 1 ≤ r
    · have hti : decide ((1 : Int) ≤ (r : Int)) = true := by simp; omega
      by_cases hlt : r < nr
      · go_wp2_with (first
          | (go_at_call 63; refine (with_r n 40 gw 0 cw L r _ ws _ hB HLs.out hRw hgn HL.out (by omega) hL2).mono ?_; rintro e w4 ⟨rfl, hB4, hG4⟩)
          | (go_at_call 64; refine (cols_d n 40 _ _ hB4 (pwith_len _ _ _)).mono ?_; rintro e w5 ⟨rfl, hB5, hG5⟩)
          | (go_at_call 65; refine (rows_3 n 40 _ _ hB5 (pcols_len _ _)).mono ?_; rintro e w6 ⟨rfl, hB6, hG6⟩)
          | (go_at_call 66; refine (boxes_d n 40 _ _ hB6 (prows_len _ _)).mono ?_; rintro e w7 ⟨rfl, hB7, hG7⟩))
        have hGa : wr.grownBy w7 (some n) := grown_trans (grown_trans (grown_trans hG4 hG5) hG6) hG7
        have HB7 := Lib.hid hB7
        have HRw := Lib.hid hRw
        have HGa := Lib.hid hGa
        clear hB hRw hB4 hB5 hB6 hB7 hG4 hG5 hG6 hG7 hGa
        go_roundw
        case rel =>
          refine ⟨r - 1, by omega, by go_num, ?_, HRw.out.old HGa.out (by simp; omega), hRow.old HGa.out (by simp), below_new HBl.out (by omega) HGa.out (Nat.le_refl _), by have := HGa.out.size; omega⟩
          have := HB7.out
          rw [show nr - (r - 1) = (nr - r) + 1 by omega]
          simp only [decTo, HS.out]
          rw [show nr - (nr - r) = r by omega, if_pos hlt]
          exact this
        case measure => simp [intOf]; omega
      · go_wp2_with (first
          | (go_at_call 63; refine (with_r n 40 gw 0 cw L r _ ws _ hB HLs.out hRw hgn HL.out (by omega) hL2).mono ?_; rintro e w4 ⟨rfl, hB4, hG4⟩)
          | (go_at_call 65; refine (rows_3 n 40 _ _ hB4 (pwith_len _ _ _)).mono ?_; rintro e w6 ⟨rfl, hB6, hG6⟩)
          | (go_at_call 66; refine (boxes_d n 40 _ _ hB6 (prows_len _ _)).mono ?_; rintro e w7 ⟨rfl, hB7, hG7⟩))
        have hGa : wr.grownBy w7 (some n) := grown_trans (grown_trans hG4 hG6) hG7
        have HB7 := Lib.hid hB7
        have HRw := Lib.hid hRw
        have HGa := Lib.hid hGa
        clear hB hRw hB4 hB6 hB7 hG4 hG6 hG7 hGa
        go_roundw
        case rel =>
          refine ⟨r - 1, by omega, by go_num, ?_, HRw.out.old HGa.out (by simp; omega), hRow.old HGa.out (by simp), below_new HBl.out (by omega) HGa.out (Nat.le_refl _), by have := HGa.out.size; omega⟩
          have := HB7.out
          rw [show nr - (r - 1) = (nr - r) + 1 by omega]
          simp only [decTo, HS.out]
          rw [show nr - (nr - r) = r by omega, if_neg hlt]
          exact this
        case measure => simp [intOf]; omega
    · have hre : r = 0 := by omega
      have HRE := Lib.hid hre
      clear hre
      go_wp2_with (first
        | (go_at_call 63; refine (with_0 n 40 gw 0 cw L _ ws _ hB HLs.out hRw hgn HL.out (by omega) hL2).mono ?_; rintro e w4 ⟨rfl, hB4, hG4⟩)
        | (refine load_blk rfl 40 _ rfl n 40 16 5 _ rfl hB4 (pwith_len _ _ _) (by kernel_rfl) (by kernel_rfl) ?_)
        | (refine store_blk rfl 40 _ _ rfl (n + 1) 40 16 (pwith s ws 0) rfl rfl (hRow.old hG4 (by simp)) (pwith_len _ _ _) (by kernel_rfl) ?_; intro w8 hB8 hG8 hs8))
      have hfin : pDec key b = pwith s ws 0 := by
        have h1 := HS.out
        rw [HRE.out, Nat.sub_zero] at h1
        unfold pDec
        rw [HWS.out, HNR.out, h1]
      refine bodyPost_ret (results_blk rfl _ _ (n + 1) 40 16 5 (pwith s ws 0) rfl hB8 (pwith_len _ _ _) (by kernel_rfl) (by kernel_rfl)) rfl ⟨?_, ?_⟩
      · rw [hfin]; rfl
      · rw [Hn.out]; exact below_new (below_new HBl.out (by omega) hG4 (Nat.le_refl _)) (by have := hG4.size; omega) hG8 (by omega)
end Go.Proofs.Ytjbdhnmkeaogcaa
