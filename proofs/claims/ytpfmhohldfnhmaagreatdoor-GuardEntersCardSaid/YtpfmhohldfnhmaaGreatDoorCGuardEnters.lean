/- of whatever guard, whoever gives whatever code: the guard then, or why not; who isn't in -/
import Derived.Test.YtpfmhohldfnhmaaGreatDoorKGE0
import Derived.Test.YtpfmhohldfnhmaaGreatDoorKGE1
import Derived.Test.YtpfmhohldfnhmaaGreatDoorKGE2
import Derived.Test.YtpfmhohldfnhmaaGreatDoorKGE3
import Derived.Test.YtpfmhohldfnhmaaGreatDoorKGE4
import Derived.Test.YtpfmhohldfnhmaaGreatDoorKB0
import Derived.WalkKit
import Derived.ProofKit
import Derived.OpenShut
import Derived.ShutString
import Derived.ChangeOld
import Derived.SizedLaws
import Derived.ChangeSlices
import Derived.Test.YtpfmhohldfnhmaaGreatDoorKG0
import Derived.Test.YtpfmhohldfnhmaaGreatDoorRows
import Derived.Test.YtpfmhohldfnhmaaGreatDoorKB6
import Derived.ChangeSame
import Derived.ChangeVars
import Derived.JoinedOf
import Derived.RowKit
import Derived.RowKitTokens
import Derived.LaidLaws
import Derived.LaidHandle
import Derived.Stop.Joined
import Derived.SevenTiedAt
import Derived.Test.YtpfmhohldfnhmaaGreatDoorCards
import Derived.Test.YtpfmhohldfnhmaaGreatDoorTie
set_option linter.unusedVariables false
namespace Go.Proofs.YtpfmhohldfnhmaaGreatDoor
open Go Go.RowKit Lk
theorem GuardEnters_any (K T0 T1 : List UInt8) (a b : Bool) (m n : Int) (who : Int) (c0 : ByteArray) (w : World) (hE : Et w) (hk : K.length = 16) (h0 : T0.length = 16) (h1 : T1.length = 16) (hcs : c0.size ≤ 9223372036854775807) :
    Calls Tryz.prog 8 #[.agg (ga K T0 T1 a b m n), .int .i64 who, .string c0] w fun e w' => e = .returned (.bool true) ∧ Below w.heap.size w w' := by
  by_cases b0 : c0.size ≤ 100
  case neg => exact GE_f0 K T0 T1 a b m n who c0 w hE hk h0 h1 b0
  by_cases b1 : m < 0
  · exact GE_f1 K T0 T1 a b m n who c0 w hE hk h0 h1 b0 b1
  by_cases b2 : n < 0
  · exact GE_f2 K T0 T1 a b m n who c0 w hE hk h0 h1 b0 (by omega) b2
  by_cases b3 : 1000 < m
  · exact GE_f3 K T0 T1 a b m n who c0 w hE hk h0 h1 b0 (by omega) (by omega) b3
  by_cases b4 : 1000 < n
  · exact GE_f4 K T0 T1 a b m n who c0 w hE hk h0 h1 b0 (by omega) (by omega) (by omega) b4
  have c1 : 0 ≤ m := by omega
  have c2 : 0 ≤ n := by omega
  have c3 : m ≤ 1000 := by omega
  have c4 : n ≤ 1000 := by omega
  by_cases p0 : who < 0
  · exact GE_arg0 K T0 T1 a b m n who c0 w hE hk h0 h1 b0 c1 c2 c3 c4 p0
  by_cases p1 : 1 < who
  · exact GE_arg1 K T0 T1 a b m n who c0 w hE hk h0 h1 b0 c1 c2 c3 c4 p1
  rcases (show who = 0 ∨ who = 1 by omega) with rfl | rfl
  · by_cases l : 5 ≤ m
    · exact GE_locked0 K T0 T1 a b m n c0 w hE hk h0 h1 b0 c1 c2 c3 c4 l
    by_cases s : c0.size < 4 ∨ 16 < c0.size
    · exact GE_none0 K T0 T1 a b m n c0 w hE hk h0 h1 b0 c1 c2 c3 c4 (by omega) s
    by_cases t : ptag K 0 c0 = T0
    · exact GE_yes0 K T0 T1 a b m n c0 w hE hk h0 h1 b0 c1 c2 c3 c4 (by omega) (by omega) (by omega) t
    · exact GE_other0 K T0 T1 a b m n c0 w hE hk h0 h1 b0 c1 c2 c3 c4 (by omega) (by omega) (by omega) t
  · by_cases l : 5 ≤ n
    · exact GE_locked1 K T0 T1 a b m n c0 w hE hk h0 h1 b0 c1 c2 c3 c4 l
    by_cases s : c0.size < 4 ∨ 16 < c0.size
    · exact GE_none1 K T0 T1 a b m n c0 w hE hk h0 h1 b0 c1 c2 c3 c4 (by omega) s
    by_cases t : ptag K 1 c0 = T1
    · exact GE_yes1 K T0 T1 a b m n c0 w hE hk h0 h1 b0 c1 c2 c3 c4 (by omega) (by omega) (by omega) t
    · exact GE_other1 K T0 T1 a b m n c0 w hE hk h0 h1 b0 c1 c2 c3 c4 (by omega) (by omega) (by omega) t
end Go.Proofs.YtpfmhohldfnhmaaGreatDoor
set_option linter.unusedVariables false
set_option linter.unusedSimpArgs false
namespace Lk
open Go Go.RowKit
/-- a slice of whole numbers as it is read -/
def IsRow (k : IntKind) (w : World) (a : Option Addr) (len cap : Nat) (zs : List Int) : Prop :=
  (a = none ∧ len = 0 ∧ cap = 0 ∧ zs = []) ∨
  ∃ x, a = some x ∧ len ≤ cap ∧ cap ≤ maxLen ∧ zs.length = cap ∧ (∀ i, i < zs.length → w.cell? (x.add i) = some (.int k (zs.getD i 0))) ∧ ∀ n ∈ zs, (Lit.int k n).wf = true
theorem u8_of_wf {n : Int} (h : (Lit.int .u8 n).wf = true) : n = bv (UInt8.ofNat n.toNat) := by
  obtain ⟨a, rfl⟩ := open_u8 h
  unfold bv
  simp
theorem slB_of_row {w : World} {a : Option Addr} {len cap : Nat} {zs : List Int} (h : IsRow .u8 w a len cap zs) : ∃ l : List UInt8, l.length = len ∧ SlB w (.slice a len cap) l := by
  rcases h with ⟨rfl, rfl, rfl, rfl⟩ | ⟨x, rfl, h1, h2, h3, h4, h5⟩
  · exact ⟨[], rfl, none, 0, rfl, fun _ => rfl, Nat.le_refl _, Nat.zero_le _, fun h => by omega⟩
  · have hl : ((zs.take len).map fun z => UInt8.ofNat z.toNat).length = len := by simp; omega
    refine ⟨(zs.take len).map fun z => UInt8.ofNat z.toNat, hl, some x, cap, by rw [hl], fun h => (by cases h), by rw [hl]; exact h1, h2, fun hc => ?_⟩
    have hx : x.spot = none := by
      have := h4 0 (by omega)
      have e : x.add 0 = x := by simp [Addr.add]
      rw [e] at this
      unfold World.cell? at this
      split at this
      · split at this
        · cases this
        · rename_i hs; simpa using hs
      · cases this
    obtain ⟨g, o, s⟩ := x
    cases hx
    refine ⟨g, o, rfl, fun k hk => ?_⟩
    rw [hl] at hk
    have hc := h4 k (by omega)
    have ea : (⟨g, o, none⟩ : Addr).add k = ⟨g, o + k, none⟩ := by unfold Addr.add; split <;> simp_all
    rw [ea] at hc
    rw [hc]
    have hm : zs.getD k 0 ∈ zs := by
      have : k < zs.length := by omega
      simp [this]
    have := u8_of_wf (h5 _ hm)
    have e : g8 ((zs.take len).map fun z => UInt8.ofNat z.toNat) k = UInt8.ofNat (zs.getD k 0).toNat := by
      unfold g8
      have : k < zs.length := by omega
      simp [List.getElem?_take, hk, this]
    rw [e, ← this]
section
variable {P : Program} {H : Type} {enc : TypeId × Value → H}
theorem open_slice_u8 {t e : TypeId} {W : World} {a : Option Addr} {len cap : Nat} {d : DataW H} {ps : List MemPlace} (ht : P.underlying t = some (.slice e)) (he : P.underlying e = some (.int .u8)) (hc : P.cellsOf e = 1)
    (h : DataW.Trod enc P W 0 (fun _ => true) true t (.slice a len cap) d ps) : ∃ l : List UInt8, l.length = len ∧ SlB W (.slice a len cap) l := by
  obtain ⟨zs, hz⟩ : ∃ zs, IsRow .u8 W a len cap zs := by
    obtain ⟨fuel, hf⟩ := h
    rcases Go.ChangeShapes.open_ints ht he hc hf with ⟨hcs, _⟩ | ⟨x, l, c, zs, hcs, _, hl, hm, hz, _, hcell, hwz⟩
    · simp [Value.cells] at hcs
      obtain ⟨rfl, rfl, rfl⟩ := hcs
      exact ⟨[], .inl ⟨rfl, rfl, rfl, rfl⟩⟩
    · simp [Value.cells] at hcs
      obtain ⟨rfl, rfl, rfl⟩ := hcs
      exact ⟨zs, .inr ⟨_, rfl, hl, hm, by simpa using hz, hcell, hwz⟩⟩
  exact slB_of_row hz
/-- an array of bytes -/
theorem open_arr_u8 {t e n : Nat} {W : World} {r : Reach} {base : Nat} {v : Value} (ht : P.underlying t = some (.array n e)) (he : P.underlying e = some (.int .u8)) (hc : P.cellsOf t = n) (hct : P.cellTypes P.depth t = some (List.replicate n e)) (hn : 0 < n)
    (h : Value.okWide P W r base t v) : ∃ l : List UInt8, l.length = n ∧ v = .agg (Bs l) := by
  simp only [Value.okWide, ht] at h
  obtain ⟨cs, rfl, hsz, ts, hts, _, hcell⟩ := h
  rw [hct] at hts
  cases hts
  rw [hc] at hsz
  refine ⟨cs.toList.map fun v => match v with | .int _ z => UInt8.ofNat z.toNat | _ => 0, by simp [hsz], ?_⟩
  congr 1
  apply Array.ext
  · simp [Bs]
  · intro i h1 h2
    obtain ⟨u, hu, hok⟩ := hcell i cs[i] (by simp [h1])
    have hue : u = e := by
      rw [List.getElem?_replicate] at hu
      split at hu
      · cases hu; rfl
      · cases hu
    subst hue
    simp only [Cell.okWide, he] at hok
    simp only [Bs, List.map_map, List.getElem_toArray, List.getElem_map, Function.comp_apply, Array.getElem_toList]
    cases hv : cs[i] with
    | int k z =>
      rw [hv] at hok
      simp only [Cell.ok, he] at hok
      obtain ⟨rfl, hw⟩ := hok
      have hw' : (Lit.int .u8 z).wf = true := by
        unfold Lit.wf
        rw [Bool.and_eq_true]
        exact ⟨decide_eq_true hw.1, decide_eq_true hw.2⟩
      simp only [← u8_of_wf hw']
    | _ => rw [hv] at hok; simp [Cell.ok, he] at hok
end
end Lk
set_option linter.unusedVariables false
set_option linter.unusedSimpArgs false
namespace Lk
open Go Go.RowKit Go.ChangeShapes Go.WideShapes
theorem bl_of (cs : List Value) (h : ∀ v ∈ cs, ∃ z, v = .int .u8 z ∧ (Lit.int .u8 z).wf = true) : ∃ l : List UInt8, l.length = cs.length ∧ cs = Bl l := by
  induction cs with
  | nil => exact ⟨[], rfl, rfl⟩
  | cons v t ih =>
    obtain ⟨l, hl, rfl⟩ := ih fun u hu => h u (List.mem_cons_of_mem _ hu)
    obtain ⟨z, rfl, hz⟩ := h v List.mem_cons_self
    refine ⟨UInt8.ofNat z.toNat :: l, by simpa using hl, ?_⟩
    unfold Bl
    rw [List.map_cons, ← u8_of_wf hz]
theorem wf_of_has {k : IntKind} {z : Int} (h : k.has z) : (Lit.int k z).wf = true := by
  unfold Lit.wf
  rw [Bool.and_eq_true]
  exact ⟨decide_eq_true h.1, decide_eq_true h.2⟩
section
variable {P : Program}
theorem open_row {t : TypeId} {ts : List TypeId} {W : World} {r : Reach} {base : Nat} {v : Value} (ht : (∃ f, P.underlying t = some (.struct f)) ∨ ∃ n e, P.underlying t = some (.array n e)) (hct : P.cellTypes P.depth t = some ts) (hc : P.cellsOf t = ts.length)
    (h : Value.okWide P W r base t v) : ∃ cs : List Value, v = .agg cs.toArray ∧ cs.length = ts.length ∧ ∀ (i : Nat) (u : TypeId) (x : Value), ts[i]? = some u → cs[i]? = some x → Cell.okWide P W r base u x := by
  have h' : ∃ cs, v = .agg cs ∧ cs.size = P.cellsOf t ∧ Row.okWide P W r base t cs := by
    rcases ht with ⟨f, ht⟩ | ⟨n, e, ht⟩ <;> simpa only [Value.okWide, ht] using h
  obtain ⟨cs, rfl, hsz, ts', hts, _, hcell⟩ := h'
  rw [hct] at hts
  cases hts
  refine ⟨cs.toList, rfl, by simpa [hc] using hsz, fun i u x hu hx => ?_⟩
  obtain ⟨u', hu', hok⟩ := hcell i x (by simpa using hx)
  have hi := (List.getElem?_eq_some_iff.1 hu).1
  rw [Nat.mod_eq_of_lt hi, hu] at hu'
  cases hu'
  exact hok
theorem cell_int {t : TypeId} {k : IntKind} {W : World} {r : Reach} {base : Nat} {v : Value} (ht : P.underlying t = some (.int k)) (h : Cell.okWide P W r base t v) : ∃ z, v = .int k z ∧ (Lit.int k z).wf = true := by
  simp only [Cell.okWide, ht] at h
  cases v with
  | int k' z =>
    simp only [Cell.ok, ht] at h
    obtain ⟨rfl, hw⟩ := h
    exact ⟨z, rfl, wf_of_has hw⟩
  | _ => simp [Cell.ok, ht] at h
theorem cell_bool {t : TypeId} {W : World} {r : Reach} {base : Nat} {v : Value} (ht : P.underlying t = some .bool) (h : Cell.okWide P W r base t v) : ∃ b, v = .bool b := by
  simp only [Cell.okWide, ht] at h
  cases v with
  | bool b => exact ⟨b, rfl⟩
  | _ => simp [Cell.ok, ht] at h
theorem u8_run {t : TypeId} {W : World} {r : Reach} {base : Nat} (ht : P.underlying t = some (.int .u8)) {cs : List Value} {ts : List TypeId} (hl : cs.length = ts.length) (h : ∀ (i : Nat) (u : TypeId) (x : Value), ts[i]? = some u → cs[i]? = some x → Cell.okWide P W r base u x) (o n : Nat) (hts : (ts.drop o).take n = List.replicate n t) : ∃ l : List UInt8, l.length = n ∧ (cs.drop o).take n = Bl l := by
  have hn : ((ts.drop o).take n).length = n := by rw [hts, List.length_replicate]
  have hlen : ((cs.drop o).take n).length = n := by
    rw [List.length_take, List.length_drop] at hn ⊢
    omega
  obtain ⟨l, h1, h2⟩ := bl_of ((cs.drop o).take n) fun v hv => by
    obtain ⟨i, hi, rfl⟩ := List.mem_iff_getElem.1 hv
    have hi' : i < n := by omega
    have e1 : cs[o + i]? = some ((cs.drop o).take n)[i] := by
      rw [← List.getElem?_drop, ← List.getElem?_take_of_lt hi', List.getElem?_eq_getElem hi]
    have e2 : ts[o + i]? = some t := by
      rw [← List.getElem?_drop, ← List.getElem?_take_of_lt hi', hts, List.getElem?_replicate, if_pos hi']
    exact cell_int ht (h _ _ _ e2 e1)
  exact ⟨l, by rw [h1, hlen], h2⟩
theorem getq_at {α : Type} (cs : List α) (i : Nat) (h : i < cs.length) : ∃ x, cs[i]? = some x := ⟨_, List.getElem?_eq_getElem h⟩
end
end Lk
set_option linter.unusedVariables false
set_option linter.unusedSimpArgs false
namespace Go.Proofs.YtpfmhohldfnhmaaGreatDoor
open Go Go.RowKit Lk Go.ChangeShapes Go.WideShapes
theorem gdt_cells : Tryz.prog.cellTypes Tryz.prog.depth gdt = some (List.replicate 48 5 ++ [4, 4, 3, 3]) := by kernel_rfl
set_option maxRecDepth 100000 in
theorem open_guard {W : World} {r : Reach} {base : Nat} {v : Value} (h : Value.okWide Tryz.prog W r base gdt v) : ∃ (k t0 t1 : List UInt8) (a b : Bool) (m n : Int), v = .agg (ga k t0 t1 a b m n) ∧ k.length = 16 ∧ t0.length = 16 ∧ t1.length = 16 ∧ (Lit.int .i64 m).wf = true ∧ (Lit.int .i64 n).wf = true := by
  obtain ⟨cs, rfl, hl, hc⟩ := open_row (.inl gdt_d) gdt_cells (by kernel_rfl) h
  have hl' : cs.length = 52 := hl
  obtain ⟨k, hk, ek⟩ := u8_run (t := 5) (by kernel_rfl) hl hc 0 16 (by decide)
  obtain ⟨t0, h0, e0⟩ := u8_run (t := 5) (by kernel_rfl) hl hc 16 16 (by decide)
  obtain ⟨t1, h1, e1⟩ := u8_run (t := 5) (by kernel_rfl) hl hc 32 16 (by decide)
  obtain ⟨x0, g0⟩ := getq_at cs 48 (by omega)
  obtain ⟨x1, g1⟩ := getq_at cs 49 (by omega)
  obtain ⟨x2, g2⟩ := getq_at cs 50 (by omega)
  obtain ⟨x3, g3⟩ := getq_at cs 51 (by omega)
  obtain ⟨a, rfl⟩ := cell_bool (t := 4) (by kernel_rfl) (hc 48 _ _ (by decide) g0)
  obtain ⟨b, rfl⟩ := cell_bool (t := 4) (by kernel_rfl) (hc 49 _ _ (by decide) g1)
  obtain ⟨m, rfl, hm⟩ := cell_int (t := 3) (k := .i64) (by kernel_rfl) (hc 50 _ _ (by decide) g2)
  obtain ⟨n, rfl, hn⟩ := cell_int (t := 3) (k := .i64) (by kernel_rfl) (hc 51 _ _ (by decide) g3)
  refine ⟨k, t0, t1, a, b, m, n, ?_, hk, h0, h1, hm, hn⟩
  unfold ga gcs
  rw [← ek, ← e0, ← e1]
  congr 2
  have e4 : cs.drop 48 = [.bool a, .bool b, .int .i64 m, .int .i64 n] := by
    apply List.ext_getElem?
    intro i
    rw [List.getElem?_drop]
    match i with
    | 0 => exact g0
    | 1 => exact g1
    | 2 => exact g2
    | 3 => exact g3
    | i + 4 => rw [List.getElem?_eq_none (by omega)]; rfl
  rw [← e4, show cs.drop 48 = (cs.drop 32).drop 16 by rw [List.drop_drop], List.take_append_drop, show cs.drop 32 = (cs.drop 16).drop 16 by rw [List.drop_drop], List.take_append_drop, List.drop_zero, List.take_append_drop]
end Go.Proofs.YtpfmhohldfnhmaaGreatDoor
set_option linter.unusedVariables false
namespace Go.Proofs.YtpfmhohldfnhmaaGreatDoor
open Go.ChangeShapes Go.WideShapes Go.RowKit
theorem ownKnobNone : ownKnob Tryz.prog.godebug = none := by kernel_rfl
theorem laidOutAll : laidOutB Tryz.prog = true := by kernel_rfl
theorem fct_laid : laidOutB Tryz.checked.prog = true := by kernel_rfl
theorem fct_maps : mapsRowed Tryz.checked.prog = true := by kernel_rfl
theorem fct_main : Tryz.pinned.checked.prog.mainIs = some (true, "3a05d988fa47357c235f95377bda5449c7939e0ad58df945c3a7c09d3fa33a44".toList) := by kernel_rfl
theorem fct_looks : true = Tryz.pinned.checked.prog.looks [] := by kernel_rfl
def laidList : List (String × DataW Unit) := [("errors.errorType", Rows.laid_errors_errorType)]
theorem et_g : Tryz.prog.globalNamed "errors.errorType" = some 0 := by kernel_rfl
theorem et_rt : (Tryz.prog.cutTypes.find? (·.1 == "internal/reflectlite.rtype")).map (·.2) = some 178 := by kernel_rfl
theorem et_row : ((List.range 260).filter fun t => Tryz.prog.rowNamed t [101, 114, 114, 111, 114]) = [29] := by kernel_rfl
theorem et_size : Tryz.prog.types.size = 260 := by kernel_rfl
theorem handle_of_laid {W : World} (h : laidMetH Tryz.prog laidList W) : Et W := by
  have h' : laidMet Tryz.prog [] W ∧ handlesMet Tryz.prog laidList W := h
  obtain ⟨name, u, ty, e1, e2, e3, e4, e5⟩ := h'.2 _ (List.mem_singleton.2 rfl)
  have en : name = [101, 114, 114, 111, 114] := (Option.some.inj e1).symm
  subst en
  obtain rfl := Option.some.inj (et_rt.symm.trans e2)
  have hm : ty ∈ (List.range 260).filter fun t => Tryz.prog.rowNamed t [101, 114, 114, 111, 114] := List.mem_filter.2 ⟨List.mem_range.2 (by rw [← et_size]; exact e3), e4⟩
  rw [et_row] at hm
  obtain rfl := List.mem_singleton.1 hm
  have hh : typeHandle Tryz.prog 29 = .pointer (some ⟨2, 29, none⟩) := by kernel_rfl
  rw [hh] at e5
  have := World.var?_cell et_g e5 0
  unfold Et hnd
  simpa using this
noncomputable def laidWorld (os : Os) : World :=
  let w0 := World.holding Tryz.prog os ⟨#[], #[], []⟩
  { w0 with heap := w0.heap.modify 0 fun
      | .cells _ t frozen => .cells #[.iface 178 (.agg #[.pointer (some ⟨2, 29, none⟩)])] t frozen
      | o => o }
theorem laidWorld_met (os : Os) (args : Array Value) : laidMetH Tryz.prog laidList ((laidWorld os).forCall (fun _ _ => 0) ⟨#[], args, []⟩).memory :=
  laidMetH_of_parts (laidMet_nil _ _) (by kernel_rfl)
end Go.Proofs.YtpfmhohldfnhmaaGreatDoor
namespace Go.Proofs.YtpfmhohldfnhmaaGreatDoor.guardEnters
open Go.ChangeShapes Go.WideShapes Go.ChangeAt Go.RowKit Lk
open Go.ChangeMaps (open_string shut_string)
set_option linter.unusedVariables false
set_option linter.unusedSimpArgs false
set_option maxRecDepth 100000 in
theorem lifted (os : Os) (started : os.Started) (H : Type) (enc : TypeId × Value → H) :
    ReturnsInHanded {} Tryz.checked os 8 .any (fun w args => (Rows.guardEntersSpec.pre enc Tryz.prog Tryz.f8 [] false w args ∧ laidMetH Tryz.prog laidList w) ∧ sizedMet enc Tryz.prog Tryz.f8 (OpenSpec.ofChange Rows.guardEntersSpec) false w args)
      (Rows.guardEntersSpec.post enc Tryz.prog Tryz.f8 false true false false) := by
  refine returnsInHanded_of_change_and (C := Tryz.checked) (X := fun w _ => laidMetH Tryz.prog laidList w) (fun _ _ _ hh h => h.of_heap hh) ownKnobNone started (by kernel_rfl) Tryz.func8
    (ChangeSpec.witness_at (enc := enc) (C := Tryz.checked) (os := os) (X := fun w _ => laidMetH Tryz.prog laidList w) false (laidWorld os) #[.agg #[.int .u8 0, .int .u8 0, .int .u8 0, .int .u8 0, .int .u8 0, .int .u8 0, .int .u8 0, .int .u8 0, .int .u8 0, .int .u8 0, .int .u8 0, .int .u8 0, .int .u8 0, .int .u8 0, .int .u8 0, .int .u8 0, .int .u8 0, .int .u8 0, .int .u8 0, .int .u8 0, .int .u8 0, .int .u8 0, .int .u8 0, .int .u8 0, .int .u8 0, .int .u8 0, .int .u8 0, .int .u8 0, .int .u8 0, .int .u8 0, .int .u8 0, .int .u8 0, .int .u8 0, .int .u8 0, .int .u8 0, .int .u8 0, .int .u8 0, .int .u8 0, .int .u8 0, .int .u8 0, .int .u8 0, .int .u8 0, .int .u8 0, .int .u8 0, .int .u8 0, .int .u8 0, .int .u8 0, .int .u8 0, .bool false, .bool false, .int .i64 0, .int .i64 0], .int .i64 0, .string ByteArray.empty] 8 rfl (by kernel_rfl) (by kernel_rfl) (by kernel_rfl) (by kernel_rfl) (by kernel_rfl) (laidWorld_met os _)) ?_
  intro W base args ds gs before hval0 hW _ _ hLd _
  have hval : ∀ (j : Nat) t v, Tryz.f8.params[j]? = some t → args[j]? = some v → Value.okWide Tryz.prog W .any base t v := hval0
  have hW' := hW
  obtain ⟨p, q, hA0, hV, rfl, hfz, hnd⟩ := hW
  have hA : DataW.TrodAll enc Tryz.prog W 0 (fun _ => true) true Tryz.f8.params.toList args.toList ds p := hA0
  have hEt : Et W := handle_of_laid hLd
  rw [Tryz.params8] at hA hval
  obtain ⟨v0, vs0, d0, ds0, p0, q0, hargs, rfl, rfl, h0, r0⟩ := trodAll_cons hA
  obtain ⟨v1, vs1, d1, ds1, p1, q1, rfl, rfl, rfl, h1, r1⟩ := trodAll_cons r0
  obtain ⟨v2, vs2, d2, ds2, p2, q2, rfl, rfl, rfl, h2, r2⟩ := trodAll_cons r1
  obtain ⟨rfl, rfl, rfl⟩ := trodAll_nil r2
  obtain rfl : args = #[v0, v1, v2] := by cases args; simp_all
  obtain ⟨rfl, rfl⟩ := trodVars_none hV
  have k0 := h0
  have lt0 : ∀ x ∈ p0, x.block < W.heap.size := by obtain ⟨m, hm⟩ := k0; exact DataW.trod_lt m _ _ _ hm
  obtain ⟨gk0, gs0, gt0, ga0, gb0, gm0, gn0, rfl, yk0, ys0, yt0, ym0, yn0⟩ := open_guard (show Value.okWide Tryz.prog W .any base gdt v0 from (hval 0 74 v0 rfl rfl))
  have k1 := h1
  have lt1 : ∀ x ∈ p1, x.block < W.heap.size := by obtain ⟨m, hm⟩ := k1; exact DataW.trod_lt m _ _ _ hm
  obtain ⟨a1, rfl, rfl, rfl, w1⟩ := open_int Tryz.underlying3 (hval 1 3 v1 rfl rfl) h1
  have k2 := h2
  have lt2 : ∀ x ∈ p2, x.block < W.heap.size := by obtain ⟨m, hm⟩ := k2; exact DataW.trod_lt m _ _ _ hm
  obtain ⟨a2, rfl, rfl, rfl, w2⟩ := open_string Tryz.underlying9 (hval 2 9 v2 rfl rfl) h2
  clear hA0 hval0
  refine (GuardEnters_any gk0 gs0 gt0 ga0 gb0 gm0 gn0 a1 a2 W hEt yk0 ys0 yt0 w2).mono fun e W' ⟨he, bel⟩ => ?_
  subst he
  exact ⟨_, rfl, _, _, _, [], _, [], hW', trodAll_mk1 (shut_bool Tryz.underlying4 _), (trodAll_cons_mk (Below.trod laidOutAll (by kernel_rfl) (of_decide_eq_true (by kernel_rfl)) k0 bel lt0) (trodAll_cons_mk (Below.trod laidOutAll (by kernel_rfl) (of_decide_eq_true (by kernel_rfl)) k1 bel lt1) (trodAll_cons_mk (Below.trod laidOutAll (by kernel_rfl) (of_decide_eq_true (by kernel_rfl)) k2 bel lt2) trodAll_mk0))), rfl, bel.frame _, fun h => by cases h⟩
set_option maxHeartbeats 8000000 in
theorem closed : joinedFacts Tryz.checked.prog 8 Tryz.f8 Rows.guardEntersSpec Rows.guardEntersRow = true := by
  unfold joinedFacts
  simp only [Bool.and_eq_true]
  repeat' apply And.intro
  all_goals first | with_reducible exact fct_laid | with_reducible exact fct_maps | as_aux_lemma => kernel_rfl
theorem named_f : Tryz.prog.funcNamed "lockbox/lockboxlaw24.GuardEnters" = some 8 := by kernel_rfl
theorem over : Rows.GuardEntersSaid :=
  OpenClaim.holds_of_wide 8 Tryz.f8 rfl rfl rfl rfl rfl rfl rfl ⟨rfl, rfl, rfl, rfl, rfl⟩ rfl rfl rfl rfl rfl named_f Tryz.func8 closed
    (of_decide_eq_true (by kernel_rfl)) (by unfold Func.isWrapper; first | (rw [if_pos (by decide +kernel)]; kernel_rfl) | (rw [if_neg (by decide +kernel)]; exact ⟨rfl, rfl⟩))
    (fun os started H enc _ => lifted os started H enc)
theorem params_ok (j : Nat) (t : TypeId) (ht : Tryz.f8.params[j]? = some t) : Tryz.prog.wantsStandIn t = false := by
  rw [Tryz.params8] at ht
  have hm : t ∈ #[74, 3, 9] := Array.mem_of_getElem? ht
  simp only [List.mem_toArray, List.mem_cons, List.not_mem_nil, or_false] at hm
  rcases hm with rfl | rfl | rfl
  · show Tryz.prog.wantsStandIn 74 = false
    kernel_rfl
  · show Tryz.prog.wantsStandIn 3 = false
    kernel_rfl
  · show Tryz.prog.wantsStandIn 9 = false
    kernel_rfl
theorem wf_text : Rows.guardEntersRow.wfByText (OpenSpec.ofChange Rows.guardEntersSpec) = true := by kernel_rfl
theorem goes_no : false = Rows.guardEntersRow.goesBy Tryz.pinned.checked.prog := by kernel_rfl
theorem card_holds : Rows.GuardEntersCardSaid :=
  Claim7.holds_tied_plain_at .later [] [.handle] true (true, "3a05d988fa47357c235f95377bda5449c7939e0ad58df945c3a7c09d3fa33a44") true
    over (fun _ h => by cases h) wf_text (fun _ h => by cases h) guardEnters_row_tie rfl ⟨rfl, rfl⟩ fct_main rfl
    (fun f fn hf hfn => by
      obtain rfl : f = 8 := Option.some.inj (named_f.symm.trans hf) |>.symm
      obtain rfl : fn = Tryz.f8 := (Option.some.inj (Tryz.func8.symm.trans hfn)).symm
      exact ⟨fct_looks, fun j t ht => params_ok j t ht⟩)
    goes_no
#print axioms card_holds
end Go.Proofs.YtpfmhohldfnhmaaGreatDoor.guardEnters
namespace Go.Proofs.YtpfmhohldfnhmaaGreatDoor
/-- The card, under a short name, for the claim. -/
theorem guardEnters_holds : Rows.GuardEntersCardSaid := guardEnters.card_holds
end Go.Proofs.YtpfmhohldfnhmaaGreatDoor
