/- A region that leaves its order open: reads and calls that leave a class of worlds as it is come first, in the text's order; what stands behind them, in one forced order, is walked as ever. -/
import Derived.StillTail
import Derived.Deep.QuietTactic
set_option linter.unusedVariables false
set_option linter.unusedSimpArgs false
namespace Lk
open Go
section
variable {P : Program} {md : Region.Mode} {ops : Array Oper} {C : World → Prop} {n : Nat}
/-- f operations, all of the head, whichever is ready; then T, in whatever world of the class -/
def Head (P : Program) (md : Region.Mode) (ops : Array Oper) (C : World → Prop) (n : Nat) (T : Array Bool → Act → Prop) : Nat → Array Bool → Act → Prop
  | 0, s, a => T s a
  | f + 1, s, a => (Region.ready md ops s ≠ []) ∧ ∀ i, i ∈ Region.ready md ops s → i < n ∧ qOp P ops C i (Head P md ops C n T f (s.setIfInBounds i true)) a
theorem Head.any {g : Nat} {T : Array Bool → Act → Prop} {Q : Exit → Act → World → Prop} (hT : ∀ s a w, C w → T s a → wpAny P md ops Q g s a w) (f : Nat) :
    ∀ (s : Array Bool) (a : Act) (w : World), C w → Head P md ops C n T f s a → wpAny P md ops Q (f + g) s a w := by
  induction f with
  | zero => intro s a w hw h; rw [Nat.zero_add]; exact hT s a w hw h
  | succ f ih =>
    intro s a w hw h
    rw [Nat.add_right_comm]
    refine ⟨fun e => (h.1 e).elim, fun i hi => ?_⟩
    exact wpOp_of_qOp hw (fun a' w' hw' h' => ih _ a' w' hw' h') (h.2 i hi).2
/-- the operation i may as well be the first -/
theorem Head.swap {i : Nat} {oi : Oper} {v : Value} {T : Array Bool → Act → Prop} (hi : ops[i]? = some oi) (hsel : ∀ (j : Nat) (o : Oper) cs b, ops[j]? = some o → o.op ≠ .select cs b)
    (hs : Region.sinkB md ops n = true) (hc : Region.chainB md ops n = true) (hn : n < ops.size) (hin : i < n) (hend : ∀ s a, T s a → ∀ j ∈ Region.ready md ops s, n ≤ j) (f : Nat) :
    ∀ (s : Array Bool) (a : Act), HeadInv md ops n s →
      (∀ j oj, ops[j]? = some oj → j ≠ i → s.getD j true = false → (∀ e ∈ oj.after, Region.binds md e = true → e.on ≠ i) → oi.apart ops oj = true) →
      i ∈ Region.ready md ops s → YieldsIn P ops C oi v a → Head P md ops C n T f (s.setIfInBounds i true) (a.put oi.dst v) → Head P md ops C n T (f + 1) s a := by
  induction f with
  | zero =>
    intro s a inv _ hr hy h
    refine ⟨fun e => List.ne_nil_of_mem hr e, fun j hj => ?_⟩
    have hjn : j < n := Nat.lt_of_not_le fun hle => (tail_waits hs hc hn inv _ i rfl hin (mem_ready.1 hr).1 j hle) hj
    by_cases e : j = i
    · rw [e]; exact ⟨hin, hy.qOp hi h⟩
    · exact absurd (hend _ _ h j (ready_mono hj e)) (Nat.not_le.2 hjn)
  | succ f ih =>
    intro s a inv hap hr hy h
    refine ⟨fun e => List.ne_nil_of_mem hr e, fun j hj => ?_⟩
    have hui := (mem_ready.1 hr).1
    have hjn : j < n := Nat.lt_of_not_le fun hle => (tail_waits hs hc hn inv _ i rfl hin hui j hle) hj
    by_cases e : j = i
    · rw [e]; exact ⟨hin, hy.qOp hi h⟩
    · refine ⟨hjn, ?_⟩
      obtain ⟨huj, oj, hoj, hall⟩ := mem_ready.1 hj
      have hno : ∀ d ∈ oj.after, Region.binds md d = true → d.on ≠ i := by
        intro d hd hb hdi
        have h1 := hall d hd hb
        rw [hdi, getD_both hui] at h1
        exact absurd h1 (by decide)
      have hq := qOp_put hoj (hap j oj hoj e huj hno) (fun cs b => hsel i oi cs b hi) (fun cs b => hsel j oj cs b hoj) hy (h.2 j (ready_mono hj e)).2
      refine qOp_mono (fun a' h3 => ih _ a' (inv.set hj hjn) ?_ (ready_mono hr (Ne.symm e)) h3.1 ?_) hq
      · intro k ok hok hki hun hk
        refine hap k ok hok hki ?_ hk
        by_cases ejk : j = k
        · rw [← ejk]; exact huj
        · rwa [getD_set_ne true ejk] at hun
      · rw [Array.setIfInBounds_comm _ _ e]; exact h3.2
theorem Head.inorder {g : Nat} {T : Act → Prop} (hsel : Region.noSelect ops = true) (hs : Region.sinkB md ops n = true) (hc : Region.chainB md ops n = true) (hn : n < ops.size) (l : List Oper) :
    ∀ (k : Nat) (s : Array Bool) (a : Act), (∀ j, j < l.length → l[j]? = ops[k + j]?) → k + l.length = n → HeadInv md ops n s → Region.lexHead md ops g l.length k s = true → wpQuiet P ops C T l a →
      Head P md ops C n (fun s' a' => Region.seqB md ops g n s' = true ∧ T a') l.length s a := by
  induction l with
  | nil =>
    intro k s a _ hk _ hB h
    obtain rfl : k = n := by simpa using hk
    exact ⟨by simpa [Region.lexHead] using hB, h⟩
  | cons o l ih =>
    intro k s a hl hk inv hB h
    have h0 : ops[k]? = some o := by have := hl 0 (by simp); simpa using this.symm
    have hlen : k + (l.length + 1) = n := hk
    simp only [List.length_cons, Region.lexHead, Bool.and_eq_true] at hB
    have hr : k ∈ Region.ready md ops s := by simpa using hB.1.1
    have hq : qOp P ops C k (wpQuiet P ops C T l) a := by unfold qOp; simp only [h0]; exact h
    obtain ⟨v, hy, hK⟩ := yieldsIn_of_qOp h0 hq
    refine Head.swap h0 (Region.noSelect_spec hsel) hs hc hn (by omega) (fun s' a' hL => seqB_ready hL.1) l.length s a inv (Region.free_spec h0 hB.1.2) hr hy ?_
    refine ih (k + 1) _ _ (fun j hj => ?_) (by omega) (inv.set hr (by omega)) hB.2 hK
    have := hl (j + 1) (by simp; omega)
    simpa [Nat.add_assoc, Nat.add_comm 1 j] using this
/-- THE LAW: n operations of the head, in the text's order; then the rest, in whatever world of the class. -/
theorem wp_quiet_tail {id : Nat} {Q : Exit → Act → World → Prop} {a : Act} {w : World} {l : List Oper} (C : World → Prop) (n : Nat) (hm : P.follows .mixedOrders = true) (hB : Region.lexTailB .any l.toArray n = true)
    (hC : C w.drew) (h : wpQuiet P l.toArray C (fun a' => ∀ w', C w' → wpList P l.toArray Q (l.drop n) a' w') (l.take n) a) : (Code.region id l.toArray true).wp P Q a w := by
  simp only [Region.lexTailB, Bool.and_eq_true, decide_eq_true_eq] at hB
  obtain ⟨⟨⟨⟨hsel, hn⟩, hs⟩, hc⟩, hlex⟩ := hB
  have hln : n < l.length := by simpa using hn
  have e1 : (l.take n).length = n := by rw [List.length_take]; omega
  have e2 : (l.drop n).length = l.toArray.size - n := by simp
  have inv : HeadInv .any l.toArray n (Array.replicate l.toArray.size false) :=
    ⟨by simp, fun j oj _ hl => absurd hl (by rw [getD_replicate_false]; decide), fun t _ ht => getD_in (by simpa using ht) (getD_replicate_false _ _)⟩
  have H := Head.inorder (md := .any) (g := l.toArray.size - n) hsel hs hc hn (l.take n) 0 _ a
    (fun j hj => by rw [e1] at hj; simp [hj]) (by rw [e1, Nat.zero_add]) inv (by rw [e1]; exact hlex) h
  refine wp_region_any hm ?_
  have hT := Head.any (Q := Q) (g := l.toArray.size - n) (fun s a' w' hw' hL => by
    have := wpAny_of_seq (md := .any) (Q' := Q) (l.drop n) n s a' w' (fun j => by simp [List.getElem?_drop]) (by rw [e2]; exact hL.1) (hL.2 w' hw')
    rwa [e2] at this) _ _ _ _ hC H
  rw [e1, show n + (l.toArray.size - n) = l.toArray.size by omega] at hT
  exact hT
end
end Lk
