/- mode.Chained and mode.Alone of whichever kind, direction and number of blocks. -/
import Derived.Test.YtidgmokbkepcdaaGreatDoorKM1
import Derived.Test.YtidgmokbkepcdaaGreatDoorKB5
import Derived.Test.YtidgmokbkepcdaaGreatDoorKB3
import Derived.Test.YtidgmokbkepcdaaGreatDoorKB4
import Derived.Test.YtidgmokbkepcdaaGreatDoorKB2
import Derived.Test.YtidgmokbkepcdaaGreatDoorKB6
import Derived.Laws.Slices
set_option linter.unusedVariables false
set_option linter.unusedSimpArgs false
namespace Go.Proofs.YtidgmokbkepcdaaGreatDoor
open Go.RowKit Lk
set_option maxHeartbeats 1600000 in
set_option maxRecDepth 100000 in
theorem ChainedE16 (q vt vs : Value) (B : Nat) (key start text : List UInt8) (w : World) (h : Cip w B q 1 key) (hB : B ≤ w.heap.size) (hs : SlB w vt text) (ht : text.length = 16 * 0) (hv : SlB w vs start) (hl : start.length = 16) :
    Calls Tryz.prog 16 #[q, vs, vt, .bool false] w fun e w' => ∃ v, e = .returned (.tuple #[v, .nilIface]) ∧ Own w' w.heap.size v [] ∧ Below w.heap.size w w' := by
  obtain ⟨N, hN⟩ : ∃ N, w.heap.size = N := ⟨_, rfl⟩
  have HN := Lib.hid hN
  obtain ⟨A, c, evt, _, b1, b2, _⟩ := id hs
  rw [ht] at evt b1
  subst evt
  have HC := Lib.hid h
  have HS := Lib.hid hs
  have HV := Lib.hid hv
  have HT := Lib.hid ht
  have HSL := Lib.hid hl
  have hq : ∃ gq, q = .pointer (some ⟨gq, 0, none⟩) := by obtain ⟨gq, _, _, e, _⟩ := h; exact ⟨gq, e⟩
  obtain ⟨gq, rfl⟩ := hq
  have HSZ := Lib.hid (fun (w' : World) (hw' : Below N w w') => Size_any (.pointer (some ⟨gq, 0, none⟩)) 1 B key w' (h.below hw' (by omega)))
  have HE := Lib.hid (fun (w1 : World) (hL : Below N w w1) (hz : w1.heap.size = N + 1 + 1 + 1) =>
    eachC16 (.pointer (some ⟨gq, 0, none⟩)) (.slice A (16 * 0) c) B (N + 1) N (N + 1 + 1) (N + 1 + 1) 0 key text w1 (fun _ _ => True) (fun _ => List.replicate 16 0)
      (HC.out.below hL (by rw [← HN.out]; exact hB)) (HS.out.below (by rw [HN.out]; exact hL)) HT.out (by omega) (by omega) (fun hm => absurd hm (by omega)) trivial (fun _ => List.length_replicate ..)
      (fun _ _ _ _ _ _ _ _ => trivial) (fun k _ _ hk => absurd hk (by omega)))
  have hvs : ∃ A c, vs = .slice A 16 c ∧ 16 ≤ c ∧ c ≤ maxLen := by obtain ⟨A, c, e, _, h1, h2, _⟩ := hv; exact ⟨A, c, by rw [e, hl], by omega, h2⟩
  obtain ⟨As, cs, rfl, _, _⟩ := hvs
  clear h hs hv ht hl
  go_enter Tryz.func16, Tryz.ntmps16
  go_wp2_with (first
    | ((with_reducible show wpList _ _ _ _ _ w); refine box_one (w := w) rfl 25 _ rfl (.pointer (some ⟨gq, 0, none⟩)) rfl rfl ?_; intro w0 h20 hG0 hz0; rw [hN] at h20 hz0 ⊢)
    | ((with_reducible show wpList _ _ _ _ _ w0); refine box_one (w := w0) rfl 4 _ rfl (.bool false) rfl rfl ?_; intro w1 h11 hG1 hz1; rw [hz0] at h11 hz1 ⊢; have hL1 : Below N w w1 := (below_none (below_none (Below.refl N w) (by omega) hG0) (by omega) hG1); have h21 := h20.old hG1 (by simp); have c21 := h21.cell)
    | (go_at_call 53; refine (HSZ.out w1 hL1).mono ?_; rintro e w1 ⟨rfl, rfl⟩; rw [show psize 1 = 16 from rfl])
    | ((with_reducible show wpList _ _ _ _ _ w1); refine alloc_one (w := w1) rfl 22 rfl (.slice none 0 0) (fun _ => by kernel_rfl) rfl ?_; intro w2 h32 hG2 hz2; rw [hz1] at h32 hz2 ⊢)
    | ((with_reducible show wpList _ _ _ _ _ w2); refine store_one (w := w2) rfl 22 _ _ rfl (N + 1 + 1) 22 _ (.slice As 16 cs) (by rfl) rfl rfl h32 (by kernel_rfl) ?_; intro w3 h33 hG3 hz3; have hL3 : Below N w w3 := (below_new (below_none hL1 (by omega) hG2) (by omega) hG3 (by omega)); have h23 := (h21.old hG2 (by simp)).old hG3 (by simp; omega); have h13 := (h11.old hG2 (by simp)).old hG3 (by simp); have c23 := h23.cell)
    | (go_at_call 50; refine (HE.out w3 hL3 (by omega)).mono ?_; rintro e w4 ⟨v4, rfl, hO4, hG4⟩))
  go_ret2
  refine ⟨_, rfl, hO4.lower (by omega), ?_⟩
  rw [hN]
  exact below_new hL3 (by omega) hG4 (by omega)
set_option maxHeartbeats 1600000 in
set_option maxRecDepth 100000 in
theorem ChainedE8 (q vt vs : Value) (B : Nat) (key start text : List UInt8) (w : World) (h : Cip w B q 2 key) (hB : B ≤ w.heap.size) (hs : SlB w vt text) (ht : text.length = 8 * 0) (hv : SlB w vs start) (hl : start.length = 8) :
    Calls Tryz.prog 16 #[q, vs, vt, .bool false] w fun e w' => ∃ v, e = .returned (.tuple #[v, .nilIface]) ∧ Own w' w.heap.size v [] ∧ Below w.heap.size w w' := by
  obtain ⟨N, hN⟩ : ∃ N, w.heap.size = N := ⟨_, rfl⟩
  have HN := Lib.hid hN
  obtain ⟨A, c, evt, _, b1, b2, _⟩ := id hs
  rw [ht] at evt b1
  subst evt
  have HC := Lib.hid h
  have HS := Lib.hid hs
  have HV := Lib.hid hv
  have HT := Lib.hid ht
  have HSL := Lib.hid hl
  have hq : ∃ gq, q = .pointer (some ⟨gq, 0, none⟩) := by obtain ⟨gq, _, _, e, _⟩ := h; exact ⟨gq, e⟩
  obtain ⟨gq, rfl⟩ := hq
  have HSZ := Lib.hid (fun (w' : World) (hw' : Below N w w') => Size_any (.pointer (some ⟨gq, 0, none⟩)) 2 B key w' (h.below hw' (by omega)))
  have HE := Lib.hid (fun (w1 : World) (hL : Below N w w1) (hz : w1.heap.size = N + 1 + 1 + 1) =>
    eachC8 (.pointer (some ⟨gq, 0, none⟩)) (.slice A (8 * 0) c) B (N + 1) N (N + 1 + 1) (N + 1 + 1) 0 key text w1 (fun _ _ => True) (fun _ => List.replicate 8 0)
      (HC.out.below hL (by rw [← HN.out]; exact hB)) (HS.out.below (by rw [HN.out]; exact hL)) HT.out (by omega) (by omega) (fun hm => absurd hm (by omega)) trivial (fun _ => List.length_replicate ..)
      (fun _ _ _ _ _ _ _ _ => trivial) (fun k _ _ hk => absurd hk (by omega)))
  have hvs : ∃ A c, vs = .slice A 8 c ∧ 8 ≤ c ∧ c ≤ maxLen := by obtain ⟨A, c, e, _, h1, h2, _⟩ := hv; exact ⟨A, c, by rw [e, hl], by omega, h2⟩
  obtain ⟨As, cs, rfl, _, _⟩ := hvs
  clear h hs hv ht hl
  go_enter Tryz.func16, Tryz.ntmps16
  go_wp2_with (first
    | ((with_reducible show wpList _ _ _ _ _ w); refine box_one (w := w) rfl 25 _ rfl (.pointer (some ⟨gq, 0, none⟩)) rfl rfl ?_; intro w0 h20 hG0 hz0; rw [hN] at h20 hz0 ⊢)
    | ((with_reducible show wpList _ _ _ _ _ w0); refine box_one (w := w0) rfl 4 _ rfl (.bool false) rfl rfl ?_; intro w1 h11 hG1 hz1; rw [hz0] at h11 hz1 ⊢; have hL1 : Below N w w1 := (below_none (below_none (Below.refl N w) (by omega) hG0) (by omega) hG1); have h21 := h20.old hG1 (by simp); have c21 := h21.cell)
    | (go_at_call 53; refine (HSZ.out w1 hL1).mono ?_; rintro e w1 ⟨rfl, rfl⟩; rw [show psize 2 = 8 from rfl])
    | ((with_reducible show wpList _ _ _ _ _ w1); refine alloc_one (w := w1) rfl 22 rfl (.slice none 0 0) (fun _ => by kernel_rfl) rfl ?_; intro w2 h32 hG2 hz2; rw [hz1] at h32 hz2 ⊢)
    | ((with_reducible show wpList _ _ _ _ _ w2); refine store_one (w := w2) rfl 22 _ _ rfl (N + 1 + 1) 22 _ (.slice As 8 cs) (by rfl) rfl rfl h32 (by kernel_rfl) ?_; intro w3 h33 hG3 hz3; have hL3 : Below N w w3 := (below_new (below_none hL1 (by omega) hG2) (by omega) hG3 (by omega)); have h23 := (h21.old hG2 (by simp)).old hG3 (by simp; omega); have h13 := (h11.old hG2 (by simp)).old hG3 (by simp); have c23 := h23.cell)
    | (go_at_call 50; refine (HE.out w3 hL3 (by omega)).mono ?_; rintro e w4 ⟨v4, rfl, hO4, hG4⟩))
  go_ret2
  refine ⟨_, rfl, hO4.lower (by omega), ?_⟩
  rw [hN]
  exact below_new hL3 (by omega) hG4 (by omega)
theorem ChainedX (q vt vs : Value) (B m kind : Nat) (key start text : List UInt8) (back : Bool) (w : World) (hk : kind = 1 ∨ kind = 2) (h : Cip w B q kind key) (hB : B ≤ w.heap.size) (hf : pfits kind key.length = true) (hs : SlB w vt text) (ht : text.length = psize kind * m) (hmx : m ≤ 100000) (hv : SlB w vs start) (hl : start.length = psize kind) :
    Calls Tryz.prog 16 #[q, vs, vt, .bool back] w fun e w' => ∃ v, e = .returned (.tuple #[v, .nilIface]) ∧ Own w' w.heap.size v (cchain kind key start text back m) ∧ Below w.heap.size w w' := by
  cases back
  · cases m with
    | zero =>
      rcases hk with rfl | rfl
      · exact ChainedE16 q vt vs B key start text w h hB hs ht hv hl
      · exact ChainedE8 q vt vs B key start text w h hB hs ht hv hl
    | succ m =>
      rcases hk with rfl | rfl
      · exact Chained1 q vt vs B (m + 1) key start text w h hB hf hs ht (by omega) hmx hv hl
      · exact Chained2 q vt vs B (m + 1) key start text w h hB hf hs ht (by omega) hmx hv hl
  · rcases hk with rfl | rfl
    · exact Unchained16 q vt vs B m key start text w h hB hf hs ht hmx hv hl
    · exact Unchained8 q vt vs B m key start text w h hB hf hs ht hmx hv hl
theorem AloneX (q vt : Value) (B m kind : Nat) (key text : List UInt8) (back : Bool) (w : World) (hk : kind = 1 ∨ kind = 2) (h : Cip w B q kind key) (hB : B ≤ w.heap.size) (hf : pfits kind key.length = true) (hs : SlB w vt text) (ht : text.length = psize kind * m) (hmx : m ≤ 100000) :
    Calls Tryz.prog 15 #[q, vt, .bool back] w fun e w' => ∃ v, e = .returned (.tuple #[v, .nilIface]) ∧ Own w' w.heap.size v (aloneTo kind key text back m) ∧ Below w.heap.size w w' := by
  rcases hk with rfl | rfl
  · exact Alone16 q vt B m key text back w h hB hf hs ht hmx
  · exact Alone8 q vt B m key text back w h hB hf hs ht hmx
end Go.Proofs.YtidgmokbkepcdaaGreatDoor
set_option linter.unusedVariables false
set_option linter.unusedSimpArgs false
namespace Go.Proofs.YtidgmokbkepcdaaGreatDoor
open Go.RowKit Lk
set_option maxHeartbeats 800000 in
set_option maxRecDepth 100000 in
theorem TapeNew (v : Value) (l : List UInt8) (w : World) (h : SlB w v l) (hl : l.length ≤ 65536) :
    Calls Tryz.prog 23 #[v] w fun e w' => ∃ g tv, e = .returned (.tuple #[.pointer (some ⟨g, 0, none⟩), .nilIface]) ∧ w.heap.size ≤ g ∧ One w' g 110 tv ∧ Own w' w.heap.size tv l ∧ Below w.heap.size w w' := by
  obtain ⟨L, hL⟩ : ∃ L, l.length = L := ⟨_, rfl⟩
  have HC := Lib.hid (clone_any v l w h (by omega))
  obtain ⟨A, c, rfl, _, b1, b2, _⟩ := h
  rw [hL] at b1 hl HC ⊢
  have EL := Lib.hid hL
  have d1 : decide ((65536 : Int) < (L : Int)) = false := by simp; omega
  clear hL
  go_enter Tryz.func23, Tryz.ntmps23
  go_wp2_with (go_at_call 61; refine HC.out.mono ?_; rintro e w1 ⟨v1, rfl, hO, hL1⟩; have HO := Lib.hid hO; have HL1 := Lib.hid hL1; obtain ⟨A1, c1, rfl, hc1⟩ := hO.slB.formc EL.out; clear hO hL1)
  go_ret2
  exact ⟨w1.heap.size, _, rfl, HL1.out.size, heap_alloc_new w1 _, HO.out.alloc _, below_alloc HL1.out HL1.out.size _⟩
theorem NewBook_any (p : Option Addr) (w : World) :
    Calls Tryz.prog 26 #[.pointer p] w fun e w' => e = .returned (.pointer (some ⟨w.heap.size, 0, none⟩)) ∧ w' = w.alloc (.cells #[.slice none 0 0, .pointer p] 116) := by
  go_enter Tryz.func26, Tryz.ntmps26
  go_wp2
  go_ret
  exact ⟨rfl, rfl⟩
theorem New_bk1 (v : Value) (bp : Option Addr) (key : List UInt8) (w : World) (hf : pfits 1 key.length = true) (h : SlB w v key) : Calls Tryz.prog 25 #[.int .i64 (1 : Int), v, .pointer bp] w (Newed w 1 key) := New_any v bp 1 key w (.inl rfl) hf h
theorem New_bk2 (v : Value) (bp : Option Addr) (key : List UInt8) (w : World) (hf : pfits 2 key.length = true) (h : SlB w v key) : Calls Tryz.prog 25 #[.int .i64 (2 : Int), v, .pointer bp] w (Newed w 2 key) := New_any v bp 2 key w (.inr rfl) hf h
set_option maxHeartbeats 800000 in
set_option maxRecDepth 100000 in
theorem cipher06_1 (vk vd : Value) (key draws : List UInt8) (w : World) (hf : pfits 1 key.length = true) (hk : SlB w vk key) (hd : SlB w vd draws) (hl : draws.length ≤ 65536) :
    Calls Tryz.prog 14 #[.int .i64 (1 : Int), vk, vd] w fun e w' => ∃ q, e = .returned (.tuple #[q, .bool true]) ∧ Cip w' w'.heap.size q 1 key ∧ Below w.heap.size w w' := by
  have HT := Lib.hid (TapeNew vd draws w hd hl)
  have HK := Lib.hid hk
  obtain ⟨A, c, rfl, _⟩ := hk
  obtain ⟨A2, c2, rfl, _⟩ := hd
  go_enter Tryz.func14, Tryz.ntmps14
  go_wp2_with (first
    | (go_at_call 23; refine HT.out.mono ?_; rintro e w1 ⟨g1, tv, rfl, hg1, _, _, hL1⟩; have HL1 := Lib.hid hL1; clear hL1)
    | (go_at_call 26; refine (NewBook_any _ _).mono ?_; rintro e w2 ⟨rfl, hw2⟩; have HL2 := Lib.hid (show Below w.heap.size w w2 from by rw [hw2]; exact below_alloc HL1.out HL1.out.size _); clear hw2)
    | (go_at_call 25; refine (New_bk1 _ _ key _ hf (HK.out.below HL2.out)).mono ?_; rintro e w3 ⟨q, rfl, hC, hL3⟩; have HC := Lib.hid hC; obtain ⟨gq, _, _, rfl, _⟩ := hC; have HL3 := Lib.hid (below_more HL2.out hL3 HL2.out.size); clear hL3))
  go_ret2
  exact ⟨_, rfl, HC.out, HL3.out⟩
set_option maxHeartbeats 800000 in
set_option maxRecDepth 100000 in
theorem cipher06_2 (vk vd : Value) (key draws : List UInt8) (w : World) (hf : pfits 2 key.length = true) (hk : SlB w vk key) (hd : SlB w vd draws) (hl : draws.length ≤ 65536) :
    Calls Tryz.prog 14 #[.int .i64 (2 : Int), vk, vd] w fun e w' => ∃ q, e = .returned (.tuple #[q, .bool true]) ∧ Cip w' w'.heap.size q 2 key ∧ Below w.heap.size w w' := by
  have HT := Lib.hid (TapeNew vd draws w hd hl)
  have HK := Lib.hid hk
  obtain ⟨A, c, rfl, _⟩ := hk
  obtain ⟨A2, c2, rfl, _⟩ := hd
  go_enter Tryz.func14, Tryz.ntmps14
  go_wp2_with (first
    | (go_at_call 23; refine HT.out.mono ?_; rintro e w1 ⟨g1, tv, rfl, hg1, _, _, hL1⟩; have HL1 := Lib.hid hL1; clear hL1)
    | (go_at_call 26; refine (NewBook_any _ _).mono ?_; rintro e w2 ⟨rfl, hw2⟩; have HL2 := Lib.hid (show Below w.heap.size w w2 from by rw [hw2]; exact below_alloc HL1.out HL1.out.size _); clear hw2)
    | (go_at_call 25; refine (New_bk2 _ _ key _ hf (HK.out.below HL2.out)).mono ?_; rintro e w3 ⟨q, rfl, hC, hL3⟩; have HC := Lib.hid hC; obtain ⟨gq, _, _, rfl, _⟩ := hC; have HL3 := Lib.hid (below_more HL2.out hL3 HL2.out.size); clear hL3))
  go_ret2
  exact ⟨_, rfl, HC.out, HL3.out⟩
end Go.Proofs.YtidgmokbkepcdaaGreatDoor
set_option linter.unusedVariables false
set_option linter.unusedSimpArgs false
namespace Lk
open Go Go.RowKit
def kright (key : List UInt8) (n : Nat) : List UInt8 := (List.range n).map fun i => if key.length = 0 then 0 else g8 key (i % key.length)
theorem kright_len (key : List UInt8) (n : Nat) : (kright key n).length = n := by simp [kright]
theorem kright_succ (key : List UInt8) (n : Nat) : kright key (n + 1) = kright key n ++ [if key.length = 0 then 0 else g8 key (n % key.length)] := by simp [kright, List.range_succ]
theorem SlB.cell {w : World} {g o L c : Nat} {l : List UInt8} (h : SlB w (.slice (some ⟨g, o, none⟩) L c) l) (k : Nat) (hk : k < l.length) : w.cell? ⟨g, o + k, none⟩ = some (.int .u8 (bv (g8 l k))) := by
  obtain ⟨A', c', e, _, h2, _, h4⟩ := h
  cases e
  obtain ⟨g', o', e2, hr⟩ := h4 (by omega)
  cases e2
  exact hr k hk
end Lk
set_option linter.unusedVariables false
set_option linter.unusedSimpArgs false
namespace Go.Proofs.YtidgmokbkepcdaaGreatDoor
open Go.RowKit Lk
set_option maxHeartbeats 1600000 in
set_option maxRecDepth 100000 in
theorem right06 (kind : Int) (n : Nat) (hkn : (kind = 1 ∧ n = 16) ∨ (kind = 2 ∧ n = 24) ∨ (kind = 3 ∧ n = 4)) (vk : Value) (key : List UInt8) (w : World) (h : SlB w vk key) :
    Calls Tryz.prog 13 #[.int .i64 kind, vk] w fun e w' => ∃ v, e = .returned v ∧ Own w' w.heap.size v (kright key n) ∧ Below w.heap.size w w' := by
  obtain ⟨N, hN⟩ : ∃ N, w.heap.size = N := ⟨_, rfl⟩
  have HN := Lib.hid hN
  have HT := Lib.hid (fun (w' : World) (hw' : Below N w w') => h.below (by rw [hN]; exact hw'))
  obtain ⟨A, c, rfl, hA0, hc0, hc1, hr⟩ := id h
  obtain ⟨m, em⟩ : ∃ m, key.length = m := ⟨_, rfl⟩
  have EM := Lib.hid em
  rw [em] at HT hc0 ⊢
  have HR := Lib.hid (show 0 < m → ∃ g o, A = some ⟨g, o, none⟩ from fun hc => by
    obtain ⟨g, o, e, hrd⟩ := hr (by omega)
    exact ⟨g, o, e⟩)
  have hmx : m ≤ 9223372036854775807 := by unfold maxLen at hc1; omega
  clear h hr hA0 em hc0 hc1
  rcases hkn with ⟨rfl, rfl⟩ | ⟨rfl, rfl⟩ | ⟨rfl, rfl⟩
  · go_enter Tryz.func13, Tryz.ntmps13
    go_wp2_with fail
    generalize hw0 : w.alloc _ = w0
    have hM0 : Below N w w0 := by rw [← hw0]; exact below_none (Below.refl _ _) (by omega) (grown_alloc (grown_refl _ _) _)
    clear hw0
    go_loopw [6, 7] (fun o i wr => ∃ (k : Nat) (vo : Value), k ≤ 16 ∧ vo = o ∧ i = .int .i64 k ∧ Own wr N vo (kright key k) ∧ Below N w wr) (fun _ i _ => 16 - (intOf i).toNat)
    case atStart => exact ⟨0, _, by omega, rfl, rfl, own_nil _ _, hM0⟩
    case round =>
      clear hM0
      obtain ⟨k, o, hk, ho0, rfl, hO, hL⟩ := hrel
      subst ho0
      have HO := Lib.hid hO
      have HL := Lib.hid hL
      have hwsz := hL.size
      rw [HN.out] at hwsz
      by_cases hlt : k < 16
      · have HLT := Lib.hid hlt
        clear hO hL
        by_cases hm0 : m = 0
        · have m0 : ¬ (0 : Int) < (m : Int) := by omega
          have HM0 := Lib.hid hm0
          clear hm0
          go_wp2_with (at_builtin; refine append_b hu_sl hu_u8 rfl _ _ rfl N _ _ (by rfl) (HO.out.alloc _) _ [0] (by rfl) (one_slB wr 0) (by rw [kright_len]; show k + 1 ≤ _; omega) (by show N ≤ (wr.heap.push _).size; simp; omega) ?_; intro v2 w2 hO2 hG2; have HO2 := Lib.hid hO2; have HL2 := Lib.hid (show Below N w w2 from below_own (HL.out.alloc (by omega) _) (by show N ≤ (wr.heap.push _).size; simp; omega) hG2 (fun k hk => (HO.out.lt k hk).1)); clear hO2 hG2)
          go_roundw
          case rel =>
            refine ⟨k + 1, _, HLT.out, rfl, by go_num, ?_, HL2.out⟩
            rw [kright_succ, if_pos (EM.out.trans HM0.out)]
            exact HO2.out
          case measure => have : k < 16 := HLT.out; simp [intOf]; omega
        · obtain ⟨gk, ok, rfl⟩ := HR.out (by omega)
          have m0 : (0 : Int) < (m : Int) := by omega
          have m1 : ¬ (m : Int) = 0 := by omega
          obtain ⟨r, er, hr⟩ : ∃ r : Nat, (k : Int) % (m : Int) = (r : Int) ∧ r < m := ⟨k % m, by simp, Nat.mod_lt _ (by omega)⟩
          have HER := Lib.hid er
          have hri : (r : Int) < (m : Int) := by omega
          have HM0 := Lib.hid hm0
          clear hm0
          go_wp2_with (at_builtin; refine append_b hu_sl hu_u8 rfl _ _ rfl N _ _ (by rfl) (HO.out.alloc _) _ [0] (by rfl) (one_slB wr 0) (by rw [kright_len]; show k + 1 ≤ _; omega) (by show N ≤ (wr.heap.push _).size; simp; omega) ?_; intro v2 w2 hO2 hG2; have HL2 := Lib.hid (show Below N w w2 from below_own (HL.out.alloc (by omega) _) (by show N ≤ (wr.heap.push _).size; simp; omega) hG2 (fun k hk => (HO.out.lt k hk).1)); obtain ⟨g2, c2, rfl, hg2, hg2', _, hfr2, hc2⟩ := hO2.form (by simp); have hl2 : (kright key k ++ [0]).length = k + 1 := (by rw [List.length_append, kright_len]; rfl); rw [hl2] at hO2 hc2 ⊢; have HO2 := Lib.hid hO2; have HLN := Lib.hid hl2; have cr := (HT.out w2 HL2.out).cell r (by rw [EM.out]; exact hr); have c3 : w2.cell? ⟨g2, k, none⟩ = some (.int .u8 (bv 0)) := (by have := hO2.cell k (by rw [HLN.out]; omega); rw [g8_right _ _ _ (by rw [kright_len]; exact Nat.le_refl _), kright_len, Nat.sub_self] at this; exact this); have f3 := hfr2 k; clear hO2 hG2 hl2 hfr2)
          go_roundw
          case rel =>
            have hG3 : w2.grownBy (w2.setCell ⟨g2, k, none⟩ (.int .u8 (bv (g8 key r)))) (some g2) := grown_set (grown_refl _ _) _ _
            refine ⟨k + 1, _, HLT.out, rfl, by go_num, ?_, below_new HL2.out (by have := HL2.out.size; have := HN.out; omega) hG3 (by omega)⟩
            have hrn : r = k % m := by have := HER.out; omega
            rw [kright_succ, if_neg (by rw [EM.out]; exact HM0.out), EM.out, ← hrn]
            have hst := Own.stored (l := kright key k ++ [0]) (cap := c2) (g := g2) (base := N) (w := w2) (by rw [HLN.out]; exact HO2.out) k (g8 key r)
            have e : (kright key k ++ [0]).set k (g8 key r) = kright key k ++ [g8 key r] := by
              rw [List.set_append_right _ _ (by rw [kright_len]; exact Nat.le_refl _), kright_len, Nat.sub_self]; rfl
            rw [e, HLN.out] at hst
            exact hst
          case measure => have : k < 16 := HLT.out; simp [intOf]; omega
      · have hkn : k = 16 := by omega
        subst hkn
        clear hO hL
        go_wp2_with fail
        go_ret
        exact ⟨_, rfl, by rw [HN.out]; exact HO.out, by rw [HN.out]; exact HL.out⟩
  · go_enter Tryz.func13, Tryz.ntmps13
    go_wp2_with fail
    generalize hw0 : w.alloc _ = w0
    have hM0 : Below N w w0 := by rw [← hw0]; exact below_none (Below.refl _ _) (by omega) (grown_alloc (grown_refl _ _) _)
    clear hw0
    go_loopw [6, 7] (fun o i wr => ∃ (k : Nat) (vo : Value), k ≤ 24 ∧ vo = o ∧ i = .int .i64 k ∧ Own wr N vo (kright key k) ∧ Below N w wr) (fun _ i _ => 24 - (intOf i).toNat)
    case atStart => exact ⟨0, _, by omega, rfl, rfl, own_nil _ _, hM0⟩
    case round =>
      clear hM0
      obtain ⟨k, o, hk, ho0, rfl, hO, hL⟩ := hrel
      subst ho0
      have HO := Lib.hid hO
      have HL := Lib.hid hL
      have hwsz := hL.size
      rw [HN.out] at hwsz
      by_cases hlt : k < 24
      · have HLT := Lib.hid hlt
        clear hO hL
        by_cases hm0 : m = 0
        · have m0 : ¬ (0 : Int) < (m : Int) := by omega
          have HM0 := Lib.hid hm0
          clear hm0
          go_wp2_with (at_builtin; refine append_b hu_sl hu_u8 rfl _ _ rfl N _ _ (by rfl) (HO.out.alloc _) _ [0] (by rfl) (one_slB wr 0) (by rw [kright_len]; show k + 1 ≤ _; omega) (by show N ≤ (wr.heap.push _).size; simp; omega) ?_; intro v2 w2 hO2 hG2; have HO2 := Lib.hid hO2; have HL2 := Lib.hid (show Below N w w2 from below_own (HL.out.alloc (by omega) _) (by show N ≤ (wr.heap.push _).size; simp; omega) hG2 (fun k hk => (HO.out.lt k hk).1)); clear hO2 hG2)
          go_roundw
          case rel =>
            refine ⟨k + 1, _, HLT.out, rfl, by go_num, ?_, HL2.out⟩
            rw [kright_succ, if_pos (EM.out.trans HM0.out)]
            exact HO2.out
          case measure => have : k < 24 := HLT.out; simp [intOf]; omega
        · obtain ⟨gk, ok, rfl⟩ := HR.out (by omega)
          have m0 : (0 : Int) < (m : Int) := by omega
          have m1 : ¬ (m : Int) = 0 := by omega
          obtain ⟨r, er, hr⟩ : ∃ r : Nat, (k : Int) % (m : Int) = (r : Int) ∧ r < m := ⟨k % m, by simp, Nat.mod_lt _ (by omega)⟩
          have HER := Lib.hid er
          have hri : (r : Int) < (m : Int) := by omega
          have HM0 := Lib.hid hm0
          clear hm0
          go_wp2_with (at_builtin; refine append_b hu_sl hu_u8 rfl _ _ rfl N _ _ (by rfl) (HO.out.alloc _) _ [0] (by rfl) (one_slB wr 0) (by rw [kright_len]; show k + 1 ≤ _; omega) (by show N ≤ (wr.heap.push _).size; simp; omega) ?_; intro v2 w2 hO2 hG2; have HL2 := Lib.hid (show Below N w w2 from below_own (HL.out.alloc (by omega) _) (by show N ≤ (wr.heap.push _).size; simp; omega) hG2 (fun k hk => (HO.out.lt k hk).1)); obtain ⟨g2, c2, rfl, hg2, hg2', _, hfr2, hc2⟩ := hO2.form (by simp); have hl2 : (kright key k ++ [0]).length = k + 1 := (by rw [List.length_append, kright_len]; rfl); rw [hl2] at hO2 hc2 ⊢; have HO2 := Lib.hid hO2; have HLN := Lib.hid hl2; have cr := (HT.out w2 HL2.out).cell r (by rw [EM.out]; exact hr); have c3 : w2.cell? ⟨g2, k, none⟩ = some (.int .u8 (bv 0)) := (by have := hO2.cell k (by rw [HLN.out]; omega); rw [g8_right _ _ _ (by rw [kright_len]; exact Nat.le_refl _), kright_len, Nat.sub_self] at this; exact this); have f3 := hfr2 k; clear hO2 hG2 hl2 hfr2)
          go_roundw
          case rel =>
            have hG3 : w2.grownBy (w2.setCell ⟨g2, k, none⟩ (.int .u8 (bv (g8 key r)))) (some g2) := grown_set (grown_refl _ _) _ _
            refine ⟨k + 1, _, HLT.out, rfl, by go_num, ?_, below_new HL2.out (by have := HL2.out.size; have := HN.out; omega) hG3 (by omega)⟩
            have hrn : r = k % m := by have := HER.out; omega
            rw [kright_succ, if_neg (by rw [EM.out]; exact HM0.out), EM.out, ← hrn]
            have hst := Own.stored (l := kright key k ++ [0]) (cap := c2) (g := g2) (base := N) (w := w2) (by rw [HLN.out]; exact HO2.out) k (g8 key r)
            have e : (kright key k ++ [0]).set k (g8 key r) = kright key k ++ [g8 key r] := by
              rw [List.set_append_right _ _ (by rw [kright_len]; exact Nat.le_refl _), kright_len, Nat.sub_self]; rfl
            rw [e, HLN.out] at hst
            exact hst
          case measure => have : k < 24 := HLT.out; simp [intOf]; omega
      · have hkn : k = 24 := by omega
        subst hkn
        clear hO hL
        go_wp2_with fail
        go_ret
        exact ⟨_, rfl, by rw [HN.out]; exact HO.out, by rw [HN.out]; exact HL.out⟩
  · go_enter Tryz.func13, Tryz.ntmps13
    go_wp2_with fail
    generalize hw0 : w.alloc _ = w0
    have hM0 : Below N w w0 := by rw [← hw0]; exact below_none (Below.refl _ _) (by omega) (grown_alloc (grown_refl _ _) _)
    clear hw0
    go_loopw [6, 7] (fun o i wr => ∃ (k : Nat) (vo : Value), k ≤ 4 ∧ vo = o ∧ i = .int .i64 k ∧ Own wr N vo (kright key k) ∧ Below N w wr) (fun _ i _ => 4 - (intOf i).toNat)
    case atStart => exact ⟨0, _, by omega, rfl, rfl, own_nil _ _, hM0⟩
    case round =>
      clear hM0
      obtain ⟨k, o, hk, ho0, rfl, hO, hL⟩ := hrel
      subst ho0
      have HO := Lib.hid hO
      have HL := Lib.hid hL
      have hwsz := hL.size
      rw [HN.out] at hwsz
      by_cases hlt : k < 4
      · have HLT := Lib.hid hlt
        clear hO hL
        by_cases hm0 : m = 0
        · have m0 : ¬ (0 : Int) < (m : Int) := by omega
          have HM0 := Lib.hid hm0
          clear hm0
          go_wp2_with (at_builtin; refine append_b hu_sl hu_u8 rfl _ _ rfl N _ _ (by rfl) (HO.out.alloc _) _ [0] (by rfl) (one_slB wr 0) (by rw [kright_len]; show k + 1 ≤ _; omega) (by show N ≤ (wr.heap.push _).size; simp; omega) ?_; intro v2 w2 hO2 hG2; have HO2 := Lib.hid hO2; have HL2 := Lib.hid (show Below N w w2 from below_own (HL.out.alloc (by omega) _) (by show N ≤ (wr.heap.push _).size; simp; omega) hG2 (fun k hk => (HO.out.lt k hk).1)); clear hO2 hG2)
          go_roundw
          case rel =>
            refine ⟨k + 1, _, HLT.out, rfl, by go_num, ?_, HL2.out⟩
            rw [kright_succ, if_pos (EM.out.trans HM0.out)]
            exact HO2.out
          case measure => have : k < 4 := HLT.out; simp [intOf]; omega
        · obtain ⟨gk, ok, rfl⟩ := HR.out (by omega)
          have m0 : (0 : Int) < (m : Int) := by omega
          have m1 : ¬ (m : Int) = 0 := by omega
          obtain ⟨r, er, hr⟩ : ∃ r : Nat, (k : Int) % (m : Int) = (r : Int) ∧ r < m := ⟨k % m, by simp, Nat.mod_lt _ (by omega)⟩
          have HER := Lib.hid er
          have hri : (r : Int) < (m : Int) := by omega
          have HM0 := Lib.hid hm0
          clear hm0
          go_wp2_with (at_builtin; refine append_b hu_sl hu_u8 rfl _ _ rfl N _ _ (by rfl) (HO.out.alloc _) _ [0] (by rfl) (one_slB wr 0) (by rw [kright_len]; show k + 1 ≤ _; omega) (by show N ≤ (wr.heap.push _).size; simp; omega) ?_; intro v2 w2 hO2 hG2; have HL2 := Lib.hid (show Below N w w2 from below_own (HL.out.alloc (by omega) _) (by show N ≤ (wr.heap.push _).size; simp; omega) hG2 (fun k hk => (HO.out.lt k hk).1)); obtain ⟨g2, c2, rfl, hg2, hg2', _, hfr2, hc2⟩ := hO2.form (by simp); have hl2 : (kright key k ++ [0]).length = k + 1 := (by rw [List.length_append, kright_len]; rfl); rw [hl2] at hO2 hc2 ⊢; have HO2 := Lib.hid hO2; have HLN := Lib.hid hl2; have cr := (HT.out w2 HL2.out).cell r (by rw [EM.out]; exact hr); have c3 : w2.cell? ⟨g2, k, none⟩ = some (.int .u8 (bv 0)) := (by have := hO2.cell k (by rw [HLN.out]; omega); rw [g8_right _ _ _ (by rw [kright_len]; exact Nat.le_refl _), kright_len, Nat.sub_self] at this; exact this); have f3 := hfr2 k; clear hO2 hG2 hl2 hfr2)
          go_roundw
          case rel =>
            have hG3 : w2.grownBy (w2.setCell ⟨g2, k, none⟩ (.int .u8 (bv (g8 key r)))) (some g2) := grown_set (grown_refl _ _) _ _
            refine ⟨k + 1, _, HLT.out, rfl, by go_num, ?_, below_new HL2.out (by have := HL2.out.size; have := HN.out; omega) hG3 (by omega)⟩
            have hrn : r = k % m := by have := HER.out; omega
            rw [kright_succ, if_neg (by rw [EM.out]; exact HM0.out), EM.out, ← hrn]
            have hst := Own.stored (l := kright key k ++ [0]) (cap := c2) (g := g2) (base := N) (w := w2) (by rw [HLN.out]; exact HO2.out) k (g8 key r)
            have e : (kright key k ++ [0]).set k (g8 key r) = kright key k ++ [g8 key r] := by
              rw [List.set_append_right _ _ (by rw [kright_len]; exact Nat.le_refl _), kright_len, Nat.sub_self]; rfl
            rw [e, HLN.out] at hst
            exact hst
          case measure => have : k < 4 := HLT.out; simp [intOf]; omega
      · have hkn : k = 4 := by omega
        subst hkn
        clear hO hL
        go_wp2_with fail
        go_ret
        exact ⟨_, rfl, by rw [HN.out]; exact HO.out, by rw [HN.out]; exact HL.out⟩
end Go.Proofs.YtidgmokbkepcdaaGreatDoor
set_option linter.unusedVariables false
set_option linter.unusedSimpArgs false
namespace Lk
open Go Go.RowKit
section
variable {P : Program} {ops : Array Oper} {rest : List Oper} {o : Oper} {a : Act} {w : World} {Q : Exit → Act → World → Prop}
theorem append_bg (hu : P.underlying slt = some (.slice u8t)) (hinfo : (P.info? u8t).map (fun i => (i.zero, i.size, i.bytes)) = some (some (.int .u8 0), 1, 1)) (hw : Region.wanted o (yielded ops a.tmps) = true) (s x : Operand)
    (ho : o.op = .call { callee := .builtin .append, args := #[s, x], argTypes := #[slt, slt] }) (base : Nat) (v : Value) (l : List UInt8) (hs : a.eval s = v) (hown : Own w base v l)
    (v2 : Value) (m : List UInt8) (hx : a.eval x = v2) (hm : SlB w v2 m) (hlen : l.length + m.length ≤ 140737488355328) (hbase : base ≤ w.heap.size)
    (h : ∀ v' w', Own w' base v' (l ++ m) → w.grownBy w' v.ownBlock → wpList P ops Q rest (a.put o.dst v') w') : wpList P ops Q (o :: rest) a w := by
  refine wpList_step fun K hK => ?_
  simp only [hw, if_true]
  obtain ⟨i, hi, hz, h1, h2⟩ := info_parts hinfo
  obtain ⟨A, c, rfl, n1, n2, n3, n4⟩ := hm
  cases A with
  | none =>
    obtain rfl := n1 rfl
    have hm0 : m = [] := List.eq_nil_of_length_eq_zero (by omega)
    subst hm0
    rw [List.append_nil] at h
    have hrun := run_append_owned_none (P := P) (w := w) base slt o.type u8t i 1 hu hi v l.length (Bl l) hown
    unfold Oper.wp
    simp [execOp, ho, resolve, invoke, builtin, hs, hx, hrun, Result.andThen]
    exact hK _ _ (h v w hown (World.grownBy.refl _ _))
  | some ad =>
    have hnews : ∀ j u, (Bl m)[j]? = some u → w.cell? (ad.add j) = some u := by
      intro j u hj
      obtain ⟨hjl, rfl⟩ := Bl_get m j u hj
      obtain ⟨g, o', e, hr⟩ := n4 (by omega)
      cases e
      have : (⟨g, o', none⟩ : Addr).add j = ⟨g, o' + j, none⟩ := by unfold Addr.add; split <;> simp_all
      rw [this]
      exact hr j hjl
    refine wp_append_own w s x slt ho base u8t i (.int .u8 0) 1 1 hu hi hz h1 h2 rfl (by decide) v l.length (Bl l) hs hown ad m.length c (Bl m) hx (by rw [Bl_len, Nat.mul_one]) hnews (Bl_one m) (by unfold maxLen; omega) (by omega) hbase ?_
    intro v' w' h3 h4 _
    refine hK _ _ (h v' w' ?_ h4)
    unfold Own
    rw [List.length_append, Bl_app]
    exact h3
end
end Lk
namespace Go.Proofs.YtidgmokbkepcdaaGreatDoor
open Go Go.RowKit Lk
theorem huel : Tryz.prog.underlying slt = some (.slice (Tryz.prog.elem slt)) := by kernel_rfl
section
variable {ops : Array Oper} {rest : List Oper} {o : Oper} {a : Act} {w : World} {Q : Exit → Act → World → Prop}
theorem run_from (w : World) (A : Option Addr) (L c k : Nat) (hk : k ≤ L) : (Instr.sliceAt slt (.slice A L c) (some (.int .i64 k)) none none).run Tryz.prog w = .ok (sliced A k L c 1) w := by
  have hsz : (sizeOf (Tryz.prog.elem slt) : Sem Nat).run Tryz.prog w = .ok 1 w := by kernel_rfl
  rw [run_sliceAt_slice w slt _ _ _ _ huel, run_slice_l w slt _ _ _ huel .i64 (k : Int) (by omega) (by omega), hsz]
  simp only [Result.andThen_ok, Int.toNat_natCast]
theorem slB_from {w : World} {A : Option Addr} {L c k : Nat} {l : List UInt8} (h : SlB w (.slice A L c) l) (hk : k ≤ L) : SlB w (sliced A k L c 1) (l.drop k) := by
  obtain ⟨A', c', e, h1, h2, h3, h4⟩ := h
  cases e
  unfold sliced
  refine ⟨_, c - k, by rw [List.length_drop], fun hn => ?_, by rw [List.length_drop]; omega, by omega, fun hc => ?_⟩
  · by_cases e : c = k
    · omega
    · rw [if_neg e] at hn
      cases A with
      | none => have := h1 rfl; omega
      | some ad => cases hn
  · obtain ⟨g, ofs, rfl, hr⟩ := h4 (by omega)
    refine ⟨g, ofs + k, ?_, fun j hj => ?_⟩
    · rw [if_neg (by omega), Option.map_some, Nat.mul_one]
      unfold Addr.add; split <;> simp_all
    · rw [List.length_drop] at hj
      have := hr (k + j) (by omega)
      rw [← Nat.add_assoc] at this
      rw [this]
      unfold g8
      rw [List.getD_eq_getElem?_getD, List.getD_eq_getElem?_getD, List.getElem?_drop]
/-- a slice from k on, whatever its capacity -/
theorem slice_from (hgd : o.guard = none) (x lo : Operand) (ho : o.op = .slice slt x (some lo) none none) (A : Option Addr) (L c k : Nat) (l : List UInt8) (hx : a.eval x = .slice A L c) (hlo : a.eval lo = .int .i64 k) (hs : SlB w (.slice A L c) l) (hk : k ≤ L)
    (h : ∀ A', SlB w (.slice A' (L - k) (c - k)) (l.drop k) → wpList Tryz.prog ops Q rest (a.put o.dst (.slice A' (L - k) (c - k))) w) : wpList Tryz.prog ops Q (o :: rest) a w :=
  wpList_plain hgd fun _ hK => by
    unfold Oper.wp execOp
    simp only [ho, hx, hlo, Option.map_some, Option.map_none, Sem.run_bind, run_from w A L c k hk, Result.andThen_ok]
    exact hK _ _ (h _ (slB_from hs hk))
end
end Go.Proofs.YtidgmokbkepcdaaGreatDoor
