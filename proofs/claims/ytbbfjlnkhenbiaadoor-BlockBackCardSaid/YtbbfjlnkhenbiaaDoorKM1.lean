/- Texts that aren't whole blocks; law06.awake. -/
import Derived.Test.YtbbfjlnkhenbiaaDoorKM4
import Derived.Test.YtbbfjlnkhenbiaaDoorKB7
import Derived.Test.YtbbfjlnkhenbiaaDoorKB5
import Derived.Test.YtbbfjlnkhenbiaaDoorKB4
import Derived.Test.YtbbfjlnkhenbiaaDoorKM0
set_option linter.unusedVariables false
set_option linter.unusedSimpArgs false
namespace Go.Proofs.YtbbfjlnkhenbiaaDoor
open Go.RowKit Lk
section
open Go
variable {P : Program} {ops : Array Oper} {Q : Exit → Act → World → Prop} {K : Act → World → Prop} {i : Nat} {o : Oper} {a : Act} {w : World}
theorem wpOp_make (hi : ops[i]? = some o) (hw : Region.wanted o (yielded ops a.tmps) = true) (t e : TypeId) (l c : Operand) (ho : o.op = .makeSlice t l c) (n : Nat) (hu : P.underlying t = some (.slice e)) (hinfo : (P.info? e).map (fun i => (i.zero, i.size, i.bytes)) = some (some (.int .u8 0), 1, 1))
    (hl : a.eval l = .int .i64 n) (hc : a.eval c = .int .i64 n) (hn : n ≤ 1099511627776)
    (hk : ∀ w1, Blk w1 w.heap.size e (List.replicate n 0) → w.grownBy w1 none → w1.heap.size = w.heap.size + 1 → K (a.put o.dst (.slice (some ⟨w.heap.size, 0, none⟩) n n)) w1) : wpOp P ops Q i K a w := by
  unfold Go.wpOp
  simp only [hi, hw, if_true]
  refine .inl ?_
  obtain ⟨ti, hti, hz, hs, hb⟩ := info_parts hinfo
  have hr := run_make (P := P) w t e ti _ hu hti hz .i64 .i64 (n : Int) (n : Int) (by omega) (by omega) (by rw [hb]; omega) (by omega)
  rw [hs, Nat.mul_one, Int.toNat_natCast] at hr
  have e0 : (Value.int IntKind.u8 0).cells = #[.int .u8 0] := rfl
  rw [e0, made_zero] at hr
  unfold Oper.wp execOp
  simp only [ho, hl, hc, Sem.run_bind, hr, Result.andThen_ok]
  exact hk _ (heap_alloc_new w _) (grown_alloc (grown_refl w none) _) (by show (w.heap.push _).size = _; simp)
theorem wpOp_enterX (hi : ops[i]? = some o) (hw : Region.wanted o (yielded ops a.tmps) = true) (f : FuncId) (args : Array Value) (G : Value → World → Prop) (h : (execOp a.eval o).run P w = .ok (.enter f args) w)
    (hc : Calls P f args w fun e w' => ∃ v, e = .returned v ∧ G v w') (hk : ∀ v w', G v w' → K (a.put o.dst v) w') : wpOp P ops Q i K a w := by
  unfold Go.wpOp
  simp only [hi, hw, if_true]
  refine .inl ?_
  unfold Oper.wp
  rw [h]
  refine hc.mono ?_
  rintro e w' ⟨v, rfl, hG⟩
  exact hk v w' hG
end
def zz16 : List UInt8 := List.replicate 16 0
def zz32 : List UInt8 := List.replicate 32 0
theorem zx1 : pxor (blkAt zz32 16 0) zz16 = ezk := by decide
theorem zx2 (y : List UInt8) (h : y.length = 16) : pxor (blkAt zz32 16 1) y = y := by
  have e : blkAt zz32 16 1 = List.replicate 16 0 := by decide
  rw [e, pxor_comm _ _ (by rw [h]; rfl)]
  have := pxor_zero y 16
  exact this
theorem ez_ch1 : (chTo 1 zz16 zz16 zz32 1).2 = pEnc ezk ezk := by
  show pdo 1 zz16 (pxor (blkAt zz32 16 0) zz16) false = _
  rw [zx1]; rfl
theorem ez_ch2 : (chTo 1 zz16 zz16 zz32 2).2 = pEnc ezk (pEnc ezk ezk) := by
  show pdo 1 zz16 (pxor (blkAt zz32 16 1) (chTo 1 zz16 zz16 zz32 1).2) false = _
  rw [ez_ch1, zx2 _ (pEnc_len _ _ rfl)]; rfl
theorem ez_all : (chTo 1 (List.replicate 16 0) zz16 zz32 2).1 = pEnc ezk ezk ++ pEnc ezk (pEnc ezk ezk) := by
  show (([] ++ (chTo 1 zz16 zz16 zz32 1).2) ++ (chTo 1 zz16 zz16 zz32 2).2) = _
  rw [ez_ch1, ez_ch2]; rfl
theorem ez_fst : (chTo 1 (List.replicate 16 0) zz16 zz32 2).1.take 16 = pEnc ezk ezk := by
  rw [ez_all]; exact List.take_left' (pEnc_len _ _ rfl)
theorem ez_snd : (chTo 1 (List.replicate 16 0) zz16 zz32 2).1.drop 16 = pEnc ezk (pEnc ezk ezk) := by
  rw [ez_all]; exact List.drop_left' (pEnc_len _ _ rfl)
theorem ez_alone : aloneTo 1 (List.replicate 16 0) (List.replicate 16 0) false 1 = pEnc ezk ezk := by
  show [] ++ pdo 1 ezk (blkAt ezk 16 0) false = _
  rw [show blkAt ezk 16 0 = ezk by decide]; rfl
theorem ez_ne : (pEnc ezk (pEnc ezk ezk) == pEnc ezk ezk) = false := by
  have e0 := ez0
  change pEnc ezk ezk = _ at e0
  rw [e0, ez1]; decide
end Go.Proofs.YtbbfjlnkhenbiaaDoor
set_option linter.unusedVariables false
set_option linter.unusedSimpArgs false
namespace Lk
theorem pdo_back (kind : Nat) (key b : List UInt8) (back : Bool) (hk : kind = 1 ∨ kind = 2) (hb : b.length = psize kind) : pdo kind key (pdo kind key b back) (!back) = b := by
  rcases hk with rfl | rfl
  · cases back
    · exact pDec_pEnc key b hb
    · exact pEnc_pDec key b hb
  · exact ptriple_back key b back hb
theorem pxor_twice (a c : List UInt8) : pxor (pxor a c) c = a := by
  apply ext_g8
  · rw [pxor_len, pxor_len]
  · intro i hi
    rw [pxor_len, pxor_len] at hi
    rw [pxor_at _ _ _ (by rw [pxor_len]; exact hi), pxor_at _ _ _ hi, UInt8.xor_assoc, UInt8.xor_self, UInt8.xor_zero]
theorem outTo_congr (o o' : Nat → List UInt8) : ∀ m, (∀ k, k < m → o k = o' k) → outTo o m = outTo o' m
  | 0, _ => rfl
  | m + 1, h => by
    rw [outTo, outTo, outTo_congr o o' m (fun k hk => h k (by omega)), h m (by omega)]
theorem outTo_take (t : List UInt8) (n : Nat) : ∀ m, n * m ≤ t.length → outTo (blkAt t n) m = t.take (n * m)
  | 0, _ => by simp [outTo]
  | m + 1, h => by
    rw [Nat.mul_add, Nat.mul_one] at h
    rw [outTo, outTo_take t n m (by omega), Nat.mul_add, Nat.mul_one, List.take_add]
    rfl
theorem outTo_blkAt (t : List UInt8) (n m : Nat) (ht : t.length = n * m) : outTo (blkAt t n) m = t := by
  rw [outTo_take t n m (by omega), List.take_of_length_le (by omega)]
theorem blkAt_app (a b : List UInt8) (n k : Nat) (h : n * k + n ≤ a.length) : blkAt (a ++ b) n k = blkAt a n k := by
  unfold blkAt
  rw [List.drop_append_of_le_length (by omega), List.take_append_of_le_length (by rw [List.length_drop]; omega)]
theorem blkAt_outTo (o : Nat → List UInt8) (n : Nat) (h : ∀ k, (o k).length = n) : ∀ m k, k < m → blkAt (outTo o m) n k = o k
  | m + 1, k, hk => by
    have hl := outTo_len o n h m
    by_cases e : k = m
    · subst e
      unfold blkAt
      rw [outTo, List.drop_append, List.drop_of_length_le (by omega), hl, Nat.sub_self, List.drop_zero, List.nil_append, List.take_of_length_le (by rw [h k]; exact Nat.le_refl _)]
    · have hlt : k < m := by omega
      have h2 : n * (k + 1) ≤ n * m := Nat.mul_le_mul_left n hlt
      rw [Nat.mul_add, Nat.mul_one] at h2
      rw [outTo, blkAt_app _ _ _ _ (by omega)]
      exact blkAt_outTo o n h m k hlt
theorem aloneTo_len (kind : Nat) (key t : List UInt8) (back : Bool) (m : Nat) (hk : kind = 1 ∨ kind = 2) : (aloneTo kind key t back m).length = psize kind * m := outTo_len _ _ (fun _ => pdo_len kind _ _ _ hk) m
theorem alone_back (kind : Nat) (key t : List UInt8) (back : Bool) (m : Nat) (hk : kind = 1 ∨ kind = 2) (ht : t.length = psize kind * m) : aloneTo kind key (aloneTo kind key t back m) (!back) m = t := by
  rw [← outTo_blkAt t (psize kind) m ht]
  refine (outTo_congr _ _ m fun k hkm => ?_)
  show pdo kind key (blkAt (aloneTo kind key (outTo (blkAt t (psize kind)) m) back m) (psize kind) k) (!back) = _
  rw [outTo_blkAt t (psize kind) m ht]
  unfold aloneTo
  rw [blkAt_outTo _ _ (fun _ => pdo_len kind _ _ _ hk) m k hkm]
  exact pdo_back kind key _ back hk (blkAt_len t _ m k ht hkm)
theorem chTo_out (kind : Nat) (key start t : List UInt8) : ∀ m, (chTo kind key start t m).1 = outTo (fun k => (chTo kind key start t (k + 1)).2) m
  | 0 => rfl
  | m + 1 => by rw [outTo, ← chTo_out kind key start t m]; rfl
theorem unchTo_len (kind : Nat) (key start t : List UInt8) (m : Nat) (hk : kind = 1 ∨ kind = 2) : (unchTo kind key start t m).length = psize kind * m := outTo_len _ _ (fun _ => by rw [pxor_len]; exact pdo_len kind _ _ _ hk) m
theorem unch_ch (kind : Nat) (key start t : List UInt8) (m : Nat) (hk : kind = 1 ∨ kind = 2) (ht : t.length = psize kind * m) (hs : start.length = psize kind) : unchTo kind key start (chTo kind key start t m).1 m = t := by
  have hb : ∀ k, k < m → blkAt (chTo kind key start t m).1 (psize kind) k = (chTo kind key start t (k + 1)).2 := fun k hkm => by
    rw [chTo_out, blkAt_outTo _ _ (fun j => chTo_last kind key start t (j + 1) hk hs) m k hkm]
  have hl : ∀ k, k ≤ m → lastB start (chTo kind key start t m).1 (psize kind) k = (chTo kind key start t k).2 := fun k hkm => by
    cases k with
    | zero => rfl
    | succ k => exact hb k (by omega)
  have : unchTo kind key start (chTo kind key start t m).1 m = outTo (blkAt t (psize kind)) m := outTo_congr _ _ m fun k hkm => by
    show pxor (pdo kind key (blkAt (chTo kind key start t m).1 (psize kind) k) true) (lastB start (chTo kind key start t m).1 (psize kind) k) = _
    rw [hb k hkm, hl k (Nat.le_of_lt hkm)]
    show pxor (pdo kind key (pdo kind key (pxor (blkAt t (psize kind) k) (chTo kind key start t k).2) false) true) _ = _
    rw [show true = !false from rfl, pdo_back kind key _ false hk (by rw [pxor_len]; exact blkAt_len t _ m k ht hkm), pxor_twice]
  rw [this, outTo_blkAt t _ m ht]
theorem ch_unch_last (kind : Nat) (key start t : List UInt8) (m : Nat) (hk : kind = 1 ∨ kind = 2) (ht : t.length = psize kind * m) (hs : start.length = psize kind) : ∀ k, k ≤ m → (chTo kind key start (unchTo kind key start t m) k).2 = lastB start t (psize kind) k
  | 0, _ => rfl
  | k + 1, hkm => by
    show pdo kind key (pxor (blkAt (unchTo kind key start t m) (psize kind) k) (chTo kind key start (unchTo kind key start t m) k).2) false = blkAt t (psize kind) k
    rw [ch_unch_last kind key start t m hk ht hs k (by omega)]
    unfold unchTo
    rw [blkAt_outTo _ _ (fun _ => by rw [pxor_len]; exact pdo_len kind _ _ _ hk) m k (by omega), pxor_twice]
    exact pdo_back kind key _ true hk (blkAt_len t _ m k ht (by omega))
theorem ch_unch (kind : Nat) (key start t : List UInt8) (m : Nat) (hk : kind = 1 ∨ kind = 2) (ht : t.length = psize kind * m) (hs : start.length = psize kind) : (chTo kind key start (unchTo kind key start t m) m).1 = t := by
  rw [chTo_out]
  have : outTo (fun k => (chTo kind key start (unchTo kind key start t m) (k + 1)).2) m = outTo (blkAt t (psize kind)) m := outTo_congr _ _ m fun k hkm => ch_unch_last kind key start t m hk ht hs (k + 1) (by omega)
  rw [this, outTo_blkAt t _ m ht]
/-- chained, whichever way -/
def cchain (kind : Nat) (key start t : List UInt8) (back : Bool) (m : Nat) : List UInt8 := bif back then unchTo kind key start t m else (chTo kind key start t m).1
theorem cchain_back (kind : Nat) (key start t : List UInt8) (back : Bool) (m : Nat) (hk : kind = 1 ∨ kind = 2) (ht : t.length = psize kind * m) (hs : start.length = psize kind) : cchain kind key start (cchain kind key start t back m) (!back) m = t := by
  cases back
  · exact unch_ch kind key start t m hk ht hs
  · exact ch_unch kind key start t m hk ht hs
theorem cchain_len (kind : Nat) (key start t : List UInt8) (back : Bool) (m : Nat) (hk : kind = 1 ∨ kind = 2) : (cchain kind key start t back m).length = psize kind * m := by
  cases back
  · exact chTo_len kind key start t m hk
  · exact unchTo_len kind key start t m hk
theorem blkAt_drop (t : List UInt8) (n j k : Nat) : blkAt (t.drop (n * j)) n k = blkAt t n (j + k) := by
  unfold blkAt
  rw [List.drop_drop, Nat.mul_add]
theorem blkAt_take (t : List UInt8) (n j k : Nat) (h : k < j) : blkAt (t.take (n * j)) n k = blkAt t n k := by
  unfold blkAt
  have h2 : n * (k + 1) ≤ n * j := Nat.mul_le_mul_left n h
  rw [Nat.mul_add, Nat.mul_one] at h2
  rw [List.drop_take, List.take_take, Nat.min_eq_left (by omega)]
theorem chTo_congr (kind : Nat) (key start t u : List UInt8) : ∀ m, (∀ k, k < m → blkAt t (psize kind) k = blkAt u (psize kind) k) → chTo kind key start t m = chTo kind key start u m
  | 0, _ => rfl
  | m + 1, h => by
    have ih := chTo_congr kind key start t u m fun k hk => h k (by omega)
    simp only [chTo]
    rw [ih, h m (by omega)]
theorem chTo_parts (kind : Nat) (key start t : List UInt8) (j : Nat) : ∀ i, chTo kind key start t (j + i) = ((chTo kind key start t j).1 ++ (chTo kind key (chTo kind key start t j).2 (t.drop (psize kind * j)) i).1, (chTo kind key (chTo kind key start t j).2 (t.drop (psize kind * j)) i).2)
  | 0 => by simp [chTo]
  | i + 1 => by
    have ih := chTo_parts kind key start t j i
    rw [← Nat.add_assoc]
    simp only [chTo]
    rw [ih, blkAt_drop]
    simp [List.append_assoc]
theorem ch_parts (kind : Nat) (key start t : List UInt8) (j i : Nat) : (chTo kind key start t (j + i)).1 = (chTo kind key start (t.take (psize kind * j)) j).1 ++ (chTo kind key (chTo kind key start (t.take (psize kind * j)) j).2 (t.drop (psize kind * j)) i).1 := by
  have e : chTo kind key start (t.take (psize kind * j)) j = chTo kind key start t j := chTo_congr kind key start _ _ j fun k hk => blkAt_take t _ j k hk
  rw [e, chTo_parts]
end Lk
