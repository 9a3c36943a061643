/- DES: a box's four bits, and a round's function. -/
import Derived.Test.YtjbdhnmkeaogcaaDesT
import Derived.Great.BuildSlice
set_option linter.unusedVariables false
set_option linter.unusedSimpArgs false
namespace Lk
open Go
/-- where a box's digit lies -/
def sixIx (s : Nat) : Nat := (((s / 16) &&& 2) ||| (s &&& 1)) * 16 + (s / 2 &&& 15)
def dbox (i s : Nat) : Nat := (boxTab.getD i []).getD (sixIx s) 0
theorem run_index_box {P : Program} (ty n e : TypeId) (hu : P.underlying ty = some (.array n e)) (hn : n = 8) (hsz : ∀ w : World, (Go.sizeOf e : Sem Nat).run P w = .ok 1 w) (ha : ∀ w : World, (isAgg e).run P w = .ok false w) (k : Nat) (hk : k < 8) (w : World) :
    (Instr.index ty (.agg boxArr) (.int .i64 k)).run P w = .ok (.string (boxS k)) w := by
  subst hn
  have hg : boxArr[k]? = some (.string (boxS k)) := by
    match k, hk with
    | 0, _ => rfl | 1, _ => rfl | 2, _ => rfl | 3, _ => rfl | 4, _ => rfl | 5, _ => rfl | 6, _ => rfl | 7, _ => rfl
  simp only [Instr.index, asIntOf]
  simp [run_underlying hu, hsz, part, ha, hg, hk]
theorem six_ix (s : Nat) (hs : s < 64) :
    IntKind.u64.wrap (IntKind.u64.wrap (bits BinOp.or IntKind.u64 (bits BinOp.and IntKind.u64 (nv s / (16 : Int)) 2) (bits BinOp.and IntKind.u64 (nv s) 1) * (16 : Int)) + bits BinOp.and IntKind.u64 (nv s / (2 : Int)) 15) = (sixIx s : Int) := by
  have h : ∀ x : Fin 64, IntKind.u64.wrap (IntKind.u64.wrap (bits BinOp.or IntKind.u64 (bits BinOp.and IntKind.u64 (nv x.val / (16 : Int)) 2) (bits BinOp.and IntKind.u64 (nv x.val) 1) * (16 : Int)) + bits BinOp.and IntKind.u64 (nv x.val / (2 : Int)) 15) = (sixIx x.val : Int) := by decide +kernel
  exact h ⟨s, hs⟩
theorem sixIx_lt (s : Nat) (hs : s < 64) : sixIx s < 64 := by
  have h : ∀ x : Fin 64, sixIx x.val < 64 := by decide +kernel
  exact h ⟨s, hs⟩
end Lk
namespace Go.Proofs.Ytjbdhnmkeaogcaa
open Go.RowKit Lk
theorem str_size : ∀ w : World, (Go.sizeOf 9 : Sem Nat).run Try.prog w = .ok 1 w := fun _ => by kernel_rfl
theorem str_agg : ∀ w : World, (isAgg 9).run Try.prog w = .ok false w := fun _ => by kernel_rfl
set_option maxHeartbeats 800000 in
set_option maxRecDepth 100000 in
theorem dbox_any (i s : Nat) (w : World) (hi : i < 8) (hs : s < 64) : Calls Try.prog 73 #[.int .i64 i, .int .u64 (nv s)] w fun e w' => e = .returned (.int .u64 (nv (dbox i s))) ∧ w' = w := by
  have HIX := Lib.hid (run_index_box (P := Try.prog) 123 8 9 (by kernel_rfl) rfl str_size str_agg i hi)
  have hix := HIX.out
  have hj := sixIx_lt s hs
  have hb := hex_box i hi
  have hz : (boxS i).size = 64 := hb.1
  have hb := hb.2 (sixIx s) hj
  have he := six_ix s hs
  have hd : (boxTab.getD i []).getD (sixIx s) 0 = dbox i s := rfl
  rw [hd] at hb
  obtain ⟨j, ej⟩ : ∃ j, sixIx s = j := ⟨_, rfl⟩
  obtain ⟨d, ed⟩ : ∃ d, dbox i s = d := ⟨_, rfl⟩
  rw [ej] at hb he hj
  rw [ed] at hb ⊢
  obtain ⟨sb, esb⟩ : ∃ sb, boxS i = sb := ⟨_, rfl⟩
  rw [esb] at hb hz hix
  have hd16 : d < 16 := (hb (by omega)).2
  obtain ⟨c, ec⟩ : ∃ c, (if d < 10 then 48 + d else 87 + d) = c := ⟨_, rfl⟩
  have hc : ∀ h : j < sb.size, (sb[j]'h).toNat = c := fun h => by rw [(hb h).1, ec]
  clear hb hd ej ed esb
  have hjz : (j : Int) < (sb.size : Int) := by omega
  have EC := Lib.hid ec
  by_cases h10 : d < 10
  · have hcd : c = 48 + d := by rw [← ec, if_pos h10]
    have hc9 : (c : Int) < (97 : Int) := by omega
    have HCD := Lib.hid hcd
    clear ec hcd h10
    go_enter Try.func73, Try.ntmps73
    go_wp2_with (refine wpList_buildTo rfl 123 _ rfl (some 7) rfl boxArr (by kernel_rfl) ?_)
    go_ret
    refine ⟨congrArg (fun x => Ending.returned (.int .u64 x)) ?_, rfl⟩
    have := HCD.out
    unfold nv
    omega
  · have hcd : c = 87 + d := by rw [← ec, if_neg h10]
    have hc9 : ¬ (c : Int) < (97 : Int) := by omega
    have HCD := Lib.hid hcd
    have H10 := Lib.hid h10
    clear ec hcd h10
    go_enter Try.func73, Try.ntmps73
    go_wp2_with (refine wpList_buildTo rfl 123 _ rfl (some 7) rfl boxArr (by kernel_rfl) ?_)
    go_ret
    refine ⟨congrArg (fun x => Ending.returned (.int .u64 x)) ?_, rfl⟩
    have := HCD.out
    have := H10.out
    simp only [IntKind.u64, IntKind.wrap, nv]
    omega
end Go.Proofs.Ytjbdhnmkeaogcaa
