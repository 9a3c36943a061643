/- The oracle's book, plain and in memory: rows, a tape; what stays where a book is asked. -/
import Derived.Test.YtbbfjlnkhenbiaaDoorKB5
import Derived.Test.YtbbfjlnkhenbiaaDoorKG0
import Derived.Test.YtbbfjlnkhenbiaaDoorKB7
import Derived.Test.YtbbfjlnkhenbiaaDoorKM2
import Derived.Test.YtbbfjlnkhenbiaaDoorKRH
import Derived.Test.YtbbfjlnkhenbiaaDoorKOH
set_option linter.unusedVariables false
set_option linter.unusedSimpArgs false
namespace Lk
open Go Go.RowKit
/-- what the oracle answered -/
structure Rw where
  k : List UInt8
  i : List UInt8
  o : List UInt8
def rfrom (back : Bool) (r : Rw) : List UInt8 := if back then r.o else r.i
def rto (back : Bool) (r : Rw) : List UInt8 := if back then r.i else r.o
/-- the row of a block -/
def pfind (rows : List Rw) (key x : List UInt8) (back : Bool) : Option Rw := rows.find? fun r => r.k == key && rfrom back r == x
/-- whether a block is taken -/
def ptaken (rows : List Rw) (key y : List UInt8) (back : Bool) : Bool := rows.any fun r => r.k == key && rto back r == y
/-- the first block of the tape that isn't taken; what is left of the tape -/
def pdraw (t : List UInt8 → Bool) (tp : List UInt8) : Option (List UInt8) × List UInt8 :=
  if h : tp.length < 16 then (none, tp) else if t (tp.take 16) then pdraw t (tp.drop 16) else (some (tp.take 16), tp.drop 16)
termination_by tp.length
decreasing_by rw [List.length_drop]; omega
def mkrow (key x y : List UInt8) (back : Bool) : Rw := if back then ⟨key, y, x⟩ else ⟨key, x, y⟩
/-- the oracle: rows, tape, answer -/
def pask (rows : List Rw) (tp key x : List UInt8) (back : Bool) : List Rw × List UInt8 × Option (List UInt8) :=
  match pfind rows key x back with
  | some r => (rows, tp, some (rto back r))
  | none => match pdraw (fun y => ptaken rows key y back) tp with
    | (none, tp') => (rows, tp', none)
    | (some y, tp') => (rows ++ [mkrow key x y back], tp', some y)
theorem pdraw_short (t : List UInt8 → Bool) (tp : List UInt8) (h : tp.length < 16) : pdraw t tp = (none, tp) := by rw [pdraw, dif_pos h]
theorem pdraw_taken (t : List UInt8 → Bool) (tp : List UInt8) (h : ¬ tp.length < 16) (ht : t (tp.take 16) = true) : pdraw t tp = pdraw t (tp.drop 16) := by rw [pdraw, dif_neg h, if_pos ht]
theorem pdraw_free (t : List UInt8 → Bool) (tp : List UInt8) (h : ¬ tp.length < 16) (ht : t (tp.take 16) = false) : pdraw t tp = (some (tp.take 16), tp.drop 16) := by rw [pdraw, dif_neg h, if_neg (by simp [ht])]
/-- a key as a string -/
def ost (l : List UInt8) : ByteArray := ⟨l.toArray⟩
theorem ost_inj {a b : List UInt8} (h : ost a = ost b) : a = b := by
  unfold ost at h
  injection h with h
  have := congrArg Array.toList h
  simpa using this
/-- a row's cells -/
def rwc (r : Rw) : List Value := .string (ost r.k) :: (Bl r.i ++ Bl r.o)
def rwOk (r : Rw) : Prop := r.i.length = 16 ∧ r.o.length = 16
theorem rwc_len {r : Rw} (h : rwOk r) : (rwc r).length = 33 := by unfold rwc; simp [Bl_len, h.1, h.2]
theorem rwc_one (r : Rw) : ∀ u ∈ rwc r, u.oneCell' = true := by
  intro u hu
  unfold rwc at hu
  rcases List.mem_cons.1 hu with rfl | hu
  · rfl
  · rcases List.mem_append.1 hu with h | h
    · exact Bl_one _ u h
    · exact Bl_one _ u h
def bkT : Nat := 85
def tpT : Nat := 95
def rwT : Nat := 153
def rwS : Nat := 83
def TyOk (T : Nat) : Prop := T ≠ bkT ∧ T ≠ tpT ∧ T ≠ rwT
theorem tyOk_u8 : TyOk u8t := by unfold TyOk; decide
/-- a block that no book touches (of a cipher of this kind) -/
def Okb (kind : Nat) (o : Obj) : Prop := kind = 3 → ∃ c T f, o = .cells c T f ∧ TyOk T
/-- all stays but what the book of an oracle's cipher has -/
structure Fr (kind : Nat) (w w' : World) : Prop where
  os : w'.os = w.os
  tape : w'.tape = w.tape
  output : w'.output = w.output
  size : w.heap.size ≤ w'.heap.size
  keeps : ∀ (i : Nat) (o : Obj), w.heap[i]? = some o → Okb kind o → w'.heap[i]? = some o
theorem Fr.of_below {kind : Nat} {w w' : World} (h : Below w.heap.size w w') : Fr kind w w' :=
  ⟨h.os, h.tape, h.output, h.size, fun i o hi _ => by rw [h.block i (Array.getElem?_eq_some_iff.1 hi).1]; exact hi⟩
theorem Fr.trans {kind : Nat} {w w1 w2 : World} (h : Fr kind w w1) (h' : Fr kind w1 w2) : Fr kind w w2 :=
  ⟨h'.os.trans h.os, h'.tape.trans h.tape, h'.output.trans h.output, Nat.le_trans h.size h'.size, fun i o hi ho => h'.keeps i o (h.keeps i o hi ho) ho⟩
theorem Fr.refl (kind : Nat) (w : World) : Fr kind w w := Fr.of_below (Below.refl _ _)
theorem Blk.fr {kind : Nat} {w w' : World} {g T : Nat} {l : List UInt8} (h : Blk w g T l) (hT : TyOk T) (hF : Fr kind w w') : Blk w' g T l := hF.keeps g _ h fun _ => ⟨_, _, _, rfl, hT⟩
theorem Own.fr {kind : Nat} {w w' : World} {base : Nat} {v : Value} {l : List UInt8} (h : Own w base v l) (hF : Fr kind w w') : Own w' base v l :=
  ⟨h.1, h.2.imp id fun ⟨g, cap, cur, e, hb, hg, r⟩ => ⟨g, cap, cur, e, hb, hF.keeps g _ hg fun _ => ⟨_, _, _, rfl, tyOk_u8⟩, r⟩⟩
/-- a readable slice whose block no book touches -/
def SlK (kind : Nat) (w : World) (v : Value) (l : List UInt8) : Prop := SlB w v l ∧ ∀ k, v.ownBlock = some k → ∃ o, w.heap[k]? = some o ∧ Okb kind o
theorem SlK.fr {kind : Nat} {w w' : World} {v : Value} {l : List UInt8} (h : SlK kind w v l) (hF : Fr kind w w') : SlK kind w' v l := by
  obtain ⟨⟨A, c, rfl, h1, h2, h3, h4⟩, h5⟩ := h
  refine ⟨⟨A, c, rfl, h1, h2, h3, fun hc => ?_⟩, fun k hk => ?_⟩
  · obtain ⟨g, o, rfl, hr⟩ := h4 hc
    obtain ⟨ob, ho, hok⟩ := h5 g rfl
    refine ⟨g, o, rfl, fun k hk => ?_⟩
    have h6 := hF.keeps g ob ho hok
    have h7 := hr k hk
    unfold World.cell? at h7 ⊢
    rw [h6]
    rw [ho] at h7
    exact h7
  · obtain ⟨ob, ho, hok⟩ := h5 k hk
    exact ⟨ob, hF.keeps k ob ho hok, hok⟩
theorem Blk.slK {kind : Nat} {w : World} {g T : Nat} {l : List UInt8} {n : Nat} (h : Blk w g T l) (hT : TyOk T) (hl : l.length = n) (hm : n ≤ maxLen) : SlK kind w (.slice (some ⟨g, 0, none⟩) n n) l :=
  ⟨h.slB hl hm, fun k hk => by
    obtain rfl : g = k := by simpa [Value.ownBlock] using hk
    exact ⟨_, h, fun _ => ⟨_, _, _, rfl, hT⟩⟩⟩
theorem Own.slK {kind : Nat} {w : World} {base : Nat} {v : Value} {l : List UInt8} (h : Own w base v l) : SlK kind w v l := by
  refine ⟨h.slB, fun k hk => ?_⟩
  rcases h.2 with ⟨rfl, _⟩ | ⟨g, cap, cur, rfl, hb, hg, _⟩
  · simp [Value.ownBlock] at hk
  · obtain rfl : g = k := by simpa [Value.ownBlock] using hk
    exact ⟨_, hg, fun _ => ⟨_, _, _, rfl, tyOk_u8⟩⟩
/-- rows in a slice of the book's own -/
def OwnR (w : World) (B : Nat) (v : Value) (rows : List Rw) : Prop := w.ownsRow B rwT 33 v rows.length (rows.flatMap rwc)
/-- a readable slice of a block of bytes -/
def SlU (w : World) (v : Value) (l : List UInt8) : Prop := SlB w v l ∧ ∀ k, v.ownBlock = some k → ∃ c f, w.heap[k]? = some (.cells c u8t f)
theorem SlU.slK {kind : Nat} {w : World} {v : Value} {l : List UInt8} (h : SlU w v l) : SlK kind w v l := ⟨h.1, fun k hk => by obtain ⟨c, f, e⟩ := h.2 k hk; exact ⟨_, e, fun _ => ⟨_, _, _, rfl, tyOk_u8⟩⟩⟩
theorem SlU.of {w w' : World} {v : Value} {l : List UInt8} (h : SlU w v l) (hk : ∀ (k : Nat) (c : Array Value) (f : Nat × Nat), w.heap[k]? = some (.cells c u8t f) → w'.heap[k]? = some (.cells c u8t f)) : SlU w' v l := by
  obtain ⟨⟨A, c, rfl, h1, h2, h3, h4⟩, h5⟩ := h
  refine ⟨⟨A, c, rfl, h1, h2, h3, fun hc => ?_⟩, fun k hkk => ?_⟩
  · obtain ⟨g, o, rfl, hr⟩ := h4 hc
    obtain ⟨cs, f, ho⟩ := h5 g rfl
    refine ⟨g, o, rfl, fun k hkk => ?_⟩
    have h6 := hk g cs f ho
    have h7 := hr k hkk
    unfold World.cell? at h7 ⊢
    rw [h6]
    rw [ho] at h7
    exact h7
  · obtain ⟨cs, f, ho⟩ := h5 k hkk
    exact ⟨cs, f, hk k cs f ho⟩
theorem SlU.below {w w' : World} {v : Value} {l : List UInt8} (h : SlU w v l) (hL : Below w.heap.size w w') : SlU w' v l :=
  h.of fun k c f hk => by rw [hL.block k (Array.getElem?_eq_some_iff.1 hk).1]; exact hk
theorem Own.slU {w : World} {base : Nat} {v : Value} {l : List UInt8} (h : Own w base v l) : SlU w v l := by
  refine ⟨h.slB, fun k hk => ?_⟩
  rcases h.2 with ⟨rfl, _⟩ | ⟨g, cap, cur, rfl, hb, hg, _⟩
  · simp [Value.ownBlock] at hk
  · obtain rfl : g = k := by simpa [Value.ownBlock] using hk
    exact ⟨_, _, hg⟩
/-- a tape in memory -/
def TpAt (w : World) (gt : Nat) (tp : List UInt8) : Prop := ∃ v, w.heap[gt]? = some (.cells #[v] tpT (0, 0)) ∧ SlU w v tp
/-- a book in memory -/
structure BkAt (w : World) (B gb gt : Nat) (rows : List Rw) (tp : List UInt8) : Prop where
  hb : B ≤ gb ∧ B ≤ gt
  book : ∃ v, w.heap[gb]? = some (.cells #[v, .pointer (some ⟨gt, 0, none⟩)] bkT (0, 0)) ∧ OwnR w B v rows
  tape : TpAt w gt tp
  ok : ∀ r ∈ rows, rwOk r
theorem TpAt.below {w w' : World} {gt : Nat} {tp : List UInt8} (h : TpAt w gt tp) (hL : Below w.heap.size w w') : TpAt w' gt tp := by
  obtain ⟨v, h1, h2⟩ := h
  exact ⟨v, by rw [hL.block gt (Array.getElem?_eq_some_iff.1 h1).1]; exact h1, h2.below hL⟩
theorem OwnR.below {w w' : World} {B : Nat} {v : Value} {rows : List Rw} (h : OwnR w B v rows) (hL : Below w.heap.size w w') : OwnR w' B v rows :=
  ⟨h.1, h.2.imp id fun ⟨g, cap, cur, e, hb, hg, r⟩ => ⟨g, cap, cur, e, hb, by rw [hL.block g (Array.getElem?_eq_some_iff.1 hg).1]; exact hg, r⟩⟩
theorem BkAt.below {w w' : World} {B gb gt : Nat} {rows : List Rw} {tp : List UInt8} (h : BkAt w B gb gt rows tp) (hL : Below w.heap.size w w') : BkAt w' B gb gt rows tp := by
  obtain ⟨h1, ⟨v, h2, h3⟩, h4, h5⟩ := h
  exact ⟨h1, ⟨v, by rw [hL.block gb (Array.getElem?_eq_some_iff.1 h2).1]; exact h2, h3.below hL⟩, h4.below hL, h5⟩
/-- a block of another type is written: the book stays -/
theorem BkAt.apart {w w' : World} {B gb gt g : Nat} {rows : List Rw} {tp : List UInt8} {c : Array Value} {T : TypeId} {f : Nat × Nat} (h : BkAt w B gb gt rows tp) (hG : w.grownBy w' (some g)) (hg : w.heap[g]? = some (.cells c T f)) (hT : T ≠ bkT ∧ T ≠ tpT ∧ T ≠ rwT ∧ T ≠ u8t) : BkAt w' B gb gt rows tp := by
  have key : ∀ (k : Nat) (c' : Array Value) (T' : TypeId) (f' : Nat × Nat), w.heap[k]? = some (.cells c' T' f') → T ≠ T' → w'.heap[k]? = some (.cells c' T' f') := fun k c' T' f' hk hne => by
    rw [hG.block k (Array.getElem?_eq_some_iff.1 hk).1 (by
      intro e
      obtain rfl : k = g := by simpa using e
      rw [hk] at hg
      injection hg with hg
      injection hg with _ hg _
      exact hne hg.symm)]
    exact hk
  obtain ⟨h1, ⟨v, h2, h3⟩, ⟨u, h4, h6⟩, h5⟩ := h
  refine ⟨h1, ⟨v, key _ _ _ _ h2 hT.1, h3.1, h3.2.imp id ?_⟩, ⟨u, key _ _ _ _ h4 hT.2.1, h6.of fun k c' f' hk => key _ _ _ _ hk hT.2.2.2⟩, h5⟩
  rintro ⟨g', cap, cur, e, hb, hg', r⟩
  exact ⟨g', cap, cur, e, hb, key _ _ _ _ hg' hT.2.2.1, r⟩
/-- an oracle's cipher in memory: its key, its book -/
def CipO (kind : Nat) (w : World) (q : Value) (key : List UInt8) (gb : Nat) : Prop :=
  ∃ g v, q = .pointer (some ⟨g, 0, none⟩) ∧ w.heap[g]? = some (.cells #[.int .i64 kind, v, .pointer (some ⟨gb, 0, none⟩)] 71 (0, 0)) ∧ SlK kind w v key
theorem tyOk_cip : TyOk 71 := by unfold TyOk; decide
theorem CipO.fr {kind : Nat} {w w' : World} {q : Value} {key : List UInt8} {gb : Nat} (h : CipO kind w q key gb) (hF : Fr kind w w') : CipO kind w' q key gb := by
  obtain ⟨g, v, e, h1, h2⟩ := h
  exact ⟨g, v, e, hF.keeps g _ h1 fun _ => ⟨_, _, _, rfl, tyOk_cip⟩, h2.fr hF⟩
theorem SlK.alloc {kind : Nat} {w : World} {v : Value} {l : List UInt8} (h : SlK kind w v l) (o : Obj) : SlK kind (w.alloc o) v l := h.fr (Fr.of_below (below_alloc (Below.refl _ _) (Nat.le_refl _) o))
theorem SlK.below {kind : Nat} {w w' : World} {v : Value} {l : List UInt8} (h : SlK kind w v l) (hL : Below w.heap.size w w') : SlK kind w' v l := h.fr (Fr.of_below hL)
end Lk
set_option linter.unusedVariables false
set_option linter.unusedSimpArgs false
namespace Go.Proofs.YtbbfjlnkhenbiaaDoor
open Go.RowKit Lk
set_option maxHeartbeats 1600000 in
set_option maxRecDepth 100000 in
theorem right05 (kind : Int) (n : Nat) (hkn : (kind = 1 ∧ n = 16) ∨ (kind = 2 ∧ n = 24) ∨ (kind = 3 ∧ n = 4)) (vk : Value) (key : List UInt8) (w : World) (h : SlB w vk key) :
    Calls Tryd.prog 16 #[.int .i64 kind, vk] w fun e w' => ∃ v, e = .returned v ∧ Own w' w.heap.size v (kright key n) ∧ Below w.heap.size w w' := by
  obtain ⟨N, hN⟩ : ∃ N, w.heap.size = N := ⟨_, rfl⟩
  have HN := Lib.hid hN
  have HT := Lib.hid (fun (w' : World) (hw' : Below N w w') => h.below (by rw [hN]; exact hw'))
  obtain ⟨A, c, rfl, hA0, hc0, hc1, hr⟩ := id h
  obtain ⟨m, em⟩ : ∃ m, key.length = m := ⟨_, rfl⟩
  have EM := Lib.hid em
  rw [em] at HT hc0 ⊢
  have HR := Lib.hid (show 0 < m → ∃ g o, A = some ⟨g, o, none⟩ from fun hc => by
    obtain ⟨g, o, e, hrd⟩ := hr (by omega)
    exact ⟨g, o, e⟩)
  have hmx : m ≤ 9223372036854775807 := by unfold maxLen at hc1; omega
  clear h hr hA0 em hc0 hc1
  rcases hkn with ⟨rfl, rfl⟩ | ⟨rfl, rfl⟩ | ⟨rfl, rfl⟩
  · go_enter Tryd.func16, Tryd.ntmps16
    go_wp2_with fail
    generalize hw0 : w.alloc _ = w0
    have hM0 : Below N w w0 := by rw [← hw0]; exact below_none (Below.refl _ _) (by omega) (grown_alloc (grown_refl _ _) _)
    clear hw0
    go_loopw [6, 7] (fun o i wr => ∃ (k : Nat) (vo : Value), k ≤ 16 ∧ vo = o ∧ i = .int .i64 k ∧ Own wr N vo (kright key k) ∧ Below N w wr) (fun _ i _ => 16 - (intOf i).toNat)
    case atStart => exact ⟨0, _, by omega, rfl, rfl, own_nil _ _, hM0⟩
    case round =>
      clear hM0
      obtain ⟨k, o, hk, ho0, rfl, hO, hL⟩ := hrel
      subst ho0
      have HO := Lib.hid hO
      have HL := Lib.hid hL
      have hwsz := hL.size
      rw [HN.out] at hwsz
      by_cases hlt : k < 16
      · have HLT := Lib.hid hlt
        clear hO hL
        by_cases hm0 : m = 0
        · have m0 : ¬ (0 : Int) < (m : Int) := by omega
          have HM0 := Lib.hid hm0
          clear hm0
          go_wp2_with (at_builtin; refine append_b hu_sl hu_u8 rfl _ _ rfl N _ _ (by rfl) (HO.out.alloc _) _ [0] (by rfl) (one_slB wr 0) (by rw [kright_len]; show k + 1 ≤ _; omega) (by show N ≤ (wr.heap.push _).size; simp; omega) ?_; intro v2 w2 hO2 hG2; have HO2 := Lib.hid hO2; have HL2 := Lib.hid (show Below N w w2 from below_own (HL.out.alloc (by omega) _) (by show N ≤ (wr.heap.push _).size; simp; omega) hG2 (fun k hk => (HO.out.lt k hk).1)); clear hO2 hG2)
          go_roundw
          case rel =>
            refine ⟨k + 1, _, HLT.out, rfl, by go_num, ?_, HL2.out⟩
            rw [kright_succ, if_pos (EM.out.trans HM0.out)]
            exact HO2.out
          case measure => have : k < 16 := HLT.out; simp [intOf]; omega
        · obtain ⟨gk, ok, rfl⟩ := HR.out (by omega)
          have m0 : (0 : Int) < (m : Int) := by omega
          have m1 : ¬ (m : Int) = 0 := by omega
          obtain ⟨r, er, hr⟩ : ∃ r : Nat, (k : Int) % (m : Int) = (r : Int) ∧ r < m := ⟨k % m, by simp, Nat.mod_lt _ (by omega)⟩
          have HER := Lib.hid er
          have hri : (r : Int) < (m : Int) := by omega
          have HM0 := Lib.hid hm0
          clear hm0
          go_wp2_with (at_builtin; refine append_b hu_sl hu_u8 rfl _ _ rfl N _ _ (by rfl) (HO.out.alloc _) _ [0] (by rfl) (one_slB wr 0) (by rw [kright_len]; show k + 1 ≤ _; omega) (by show N ≤ (wr.heap.push _).size; simp; omega) ?_; intro v2 w2 hO2 hG2; have HL2 := Lib.hid (show Below N w w2 from below_own (HL.out.alloc (by omega) _) (by show N ≤ (wr.heap.push _).size; simp; omega) hG2 (fun k hk => (HO.out.lt k hk).1)); obtain ⟨g2, c2, rfl, hg2, hg2', _, hfr2, hc2⟩ := hO2.form (by simp); have hl2 : (kright key k ++ [0]).length = k + 1 := (by rw [List.length_append, kright_len]; rfl); rw [hl2] at hO2 hc2 ⊢; have HO2 := Lib.hid hO2; have HLN := Lib.hid hl2; have cr := (HT.out w2 HL2.out).cell r (by rw [EM.out]; exact hr); have c3 : w2.cell? ⟨g2, k, none⟩ = some (.int .u8 (bv 0)) := (by have := hO2.cell k (by rw [HLN.out]; omega); rw [g8_right _ _ _ (by rw [kright_len]; exact Nat.le_refl _), kright_len, Nat.sub_self] at this; exact this); have f3 := hfr2 k; clear hO2 hG2 hl2 hfr2)
          go_roundw
          case rel =>
            have hG3 : w2.grownBy (w2.setCell ⟨g2, k, none⟩ (.int .u8 (bv (g8 key r)))) (some g2) := grown_set (grown_refl _ _) _ _
            refine ⟨k + 1, _, HLT.out, rfl, by go_num, ?_, below_new HL2.out (by have := HL2.out.size; have := HN.out; omega) hG3 (by omega)⟩
            have hrn : r = k % m := by have := HER.out; omega
            rw [kright_succ, if_neg (by rw [EM.out]; exact HM0.out), EM.out, ← hrn]
            have hst := Own.stored (l := kright key k ++ [0]) (cap := c2) (g := g2) (base := N) (w := w2) (by rw [HLN.out]; exact HO2.out) k (g8 key r)
            have e : (kright key k ++ [0]).set k (g8 key r) = kright key k ++ [g8 key r] := by
              rw [List.set_append_right _ _ (by rw [kright_len]; exact Nat.le_refl _), kright_len, Nat.sub_self]; rfl
            rw [e, HLN.out] at hst
            exact hst
          case measure => have : k < 16 := HLT.out; simp [intOf]; omega
      · have hkn : k = 16 := by omega
        subst hkn
        clear hO hL
        go_wp2_with fail
        go_ret
        exact ⟨_, rfl, by rw [HN.out]; exact HO.out, by rw [HN.out]; exact HL.out⟩
  · go_enter Tryd.func16, Tryd.ntmps16
    go_wp2_with fail
    generalize hw0 : w.alloc _ = w0
    have hM0 : Below N w w0 := by rw [← hw0]; exact below_none (Below.refl _ _) (by omega) (grown_alloc (grown_refl _ _) _)
    clear hw0
    go_loopw [6, 7] (fun o i wr => ∃ (k : Nat) (vo : Value), k ≤ 24 ∧ vo = o ∧ i = .int .i64 k ∧ Own wr N vo (kright key k) ∧ Below N w wr) (fun _ i _ => 24 - (intOf i).toNat)
    case atStart => exact ⟨0, _, by omega, rfl, rfl, own_nil _ _, hM0⟩
    case round =>
      clear hM0
      obtain ⟨k, o, hk, ho0, rfl, hO, hL⟩ := hrel
      subst ho0
      have HO := Lib.hid hO
      have HL := Lib.hid hL
      have hwsz := hL.size
      rw [HN.out] at hwsz
      by_cases hlt : k < 24
      · have HLT := Lib.hid hlt
        clear hO hL
        by_cases hm0 : m = 0
        · have m0 : ¬ (0 : Int) < (m : Int) := by omega
          have HM0 := Lib.hid hm0
          clear hm0
          go_wp2_with (at_builtin; refine append_b hu_sl hu_u8 rfl _ _ rfl N _ _ (by rfl) (HO.out.alloc _) _ [0] (by rfl) (one_slB wr 0) (by rw [kright_len]; show k + 1 ≤ _; omega) (by show N ≤ (wr.heap.push _).size; simp; omega) ?_; intro v2 w2 hO2 hG2; have HO2 := Lib.hid hO2; have HL2 := Lib.hid (show Below N w w2 from below_own (HL.out.alloc (by omega) _) (by show N ≤ (wr.heap.push _).size; simp; omega) hG2 (fun k hk => (HO.out.lt k hk).1)); clear hO2 hG2)
          go_roundw
          case rel =>
            refine ⟨k + 1, _, HLT.out, rfl, by go_num, ?_, HL2.out⟩
            rw [kright_succ, if_pos (EM.out.trans HM0.out)]
            exact HO2.out
          case measure => have : k < 24 := HLT.out; simp [intOf]; omega
        · obtain ⟨gk, ok, rfl⟩ := HR.out (by omega)
          have m0 : (0 : Int) < (m : Int) := by omega
          have m1 : ¬ (m : Int) = 0 := by omega
          obtain ⟨r, er, hr⟩ : ∃ r : Nat, (k : Int) % (m : Int) = (r : Int) ∧ r < m := ⟨k % m, by simp, Nat.mod_lt _ (by omega)⟩
          have HER := Lib.hid er
          have hri : (r : Int) < (m : Int) := by omega
          have HM0 := Lib.hid hm0
          clear hm0
          go_wp2_with (at_builtin; refine append_b hu_sl hu_u8 rfl _ _ rfl N _ _ (by rfl) (HO.out.alloc _) _ [0] (by rfl) (one_slB wr 0) (by rw [kright_len]; show k + 1 ≤ _; omega) (by show N ≤ (wr.heap.push _).size; simp; omega) ?_; intro v2 w2 hO2 hG2; have HL2 := Lib.hid (show Below N w w2 from below_own (HL.out.alloc (by omega) _) (by show N ≤ (wr.heap.push _).size; simp; omega) hG2 (fun k hk => (HO.out.lt k hk).1)); obtain ⟨g2, c2, rfl, hg2, hg2', _, hfr2, hc2⟩ := hO2.form (by simp); have hl2 : (kright key k ++ [0]).length = k + 1 := (by rw [List.length_append, kright_len]; rfl); rw [hl2] at hO2 hc2 ⊢; have HO2 := Lib.hid hO2; have HLN := Lib.hid hl2; have cr := (HT.out w2 HL2.out).cell r (by rw [EM.out]; exact hr); have c3 : w2.cell? ⟨g2, k, none⟩ = some (.int .u8 (bv 0)) := (by have := hO2.cell k (by rw [HLN.out]; omega); rw [g8_right _ _ _ (by rw [kright_len]; exact Nat.le_refl _), kright_len, Nat.sub_self] at this; exact this); have f3 := hfr2 k; clear hO2 hG2 hl2 hfr2)
          go_roundw
          case rel =>
            have hG3 : w2.grownBy (w2.setCell ⟨g2, k, none⟩ (.int .u8 (bv (g8 key r)))) (some g2) := grown_set (grown_refl _ _) _ _
            refine ⟨k + 1, _, HLT.out, rfl, by go_num, ?_, below_new HL2.out (by have := HL2.out.size; have := HN.out; omega) hG3 (by omega)⟩
            have hrn : r = k % m := by have := HER.out; omega
            rw [kright_succ, if_neg (by rw [EM.out]; exact HM0.out), EM.out, ← hrn]
            have hst := Own.stored (l := kright key k ++ [0]) (cap := c2) (g := g2) (base := N) (w := w2) (by rw [HLN.out]; exact HO2.out) k (g8 key r)
            have e : (kright key k ++ [0]).set k (g8 key r) = kright key k ++ [g8 key r] := by
              rw [List.set_append_right _ _ (by rw [kright_len]; exact Nat.le_refl _), kright_len, Nat.sub_self]; rfl
            rw [e, HLN.out] at hst
            exact hst
          case measure => have : k < 24 := HLT.out; simp [intOf]; omega
      · have hkn : k = 24 := by omega
        subst hkn
        clear hO hL
        go_wp2_with fail
        go_ret
        exact ⟨_, rfl, by rw [HN.out]; exact HO.out, by rw [HN.out]; exact HL.out⟩
  · go_enter Tryd.func16, Tryd.ntmps16
    go_wp2_with fail
    generalize hw0 : w.alloc _ = w0
    have hM0 : Below N w w0 := by rw [← hw0]; exact below_none (Below.refl _ _) (by omega) (grown_alloc (grown_refl _ _) _)
    clear hw0
    go_loopw [6, 7] (fun o i wr => ∃ (k : Nat) (vo : Value), k ≤ 4 ∧ vo = o ∧ i = .int .i64 k ∧ Own wr N vo (kright key k) ∧ Below N w wr) (fun _ i _ => 4 - (intOf i).toNat)
    case atStart => exact ⟨0, _, by omega, rfl, rfl, own_nil _ _, hM0⟩
    case round =>
      clear hM0
      obtain ⟨k, o, hk, ho0, rfl, hO, hL⟩ := hrel
      subst ho0
      have HO := Lib.hid hO
      have HL := Lib.hid hL
      have hwsz := hL.size
      rw [HN.out] at hwsz
      by_cases hlt : k < 4
      · have HLT := Lib.hid hlt
        clear hO hL
        by_cases hm0 : m = 0
        · have m0 : ¬ (0 : Int) < (m : Int) := by omega
          have HM0 := Lib.hid hm0
          clear hm0
          go_wp2_with (at_builtin; refine append_b hu_sl hu_u8 rfl _ _ rfl N _ _ (by rfl) (HO.out.alloc _) _ [0] (by rfl) (one_slB wr 0) (by rw [kright_len]; show k + 1 ≤ _; omega) (by show N ≤ (wr.heap.push _).size; simp; omega) ?_; intro v2 w2 hO2 hG2; have HO2 := Lib.hid hO2; have HL2 := Lib.hid (show Below N w w2 from below_own (HL.out.alloc (by omega) _) (by show N ≤ (wr.heap.push _).size; simp; omega) hG2 (fun k hk => (HO.out.lt k hk).1)); clear hO2 hG2)
          go_roundw
          case rel =>
            refine ⟨k + 1, _, HLT.out, rfl, by go_num, ?_, HL2.out⟩
            rw [kright_succ, if_pos (EM.out.trans HM0.out)]
            exact HO2.out
          case measure => have : k < 4 := HLT.out; simp [intOf]; omega
        · obtain ⟨gk, ok, rfl⟩ := HR.out (by omega)
          have m0 : (0 : Int) < (m : Int) := by omega
          have m1 : ¬ (m : Int) = 0 := by omega
          obtain ⟨r, er, hr⟩ : ∃ r : Nat, (k : Int) % (m : Int) = (r : Int) ∧ r < m := ⟨k % m, by simp, Nat.mod_lt _ (by omega)⟩
          have HER := Lib.hid er
          have hri : (r : Int) < (m : Int) := by omega
          have HM0 := Lib.hid hm0
          clear hm0
          go_wp2_with (at_builtin; refine append_b hu_sl hu_u8 rfl _ _ rfl N _ _ (by rfl) (HO.out.alloc _) _ [0] (by rfl) (one_slB wr 0) (by rw [kright_len]; show k + 1 ≤ _; omega) (by show N ≤ (wr.heap.push _).size; simp; omega) ?_; intro v2 w2 hO2 hG2; have HL2 := Lib.hid (show Below N w w2 from below_own (HL.out.alloc (by omega) _) (by show N ≤ (wr.heap.push _).size; simp; omega) hG2 (fun k hk => (HO.out.lt k hk).1)); obtain ⟨g2, c2, rfl, hg2, hg2', _, hfr2, hc2⟩ := hO2.form (by simp); have hl2 : (kright key k ++ [0]).length = k + 1 := (by rw [List.length_append, kright_len]; rfl); rw [hl2] at hO2 hc2 ⊢; have HO2 := Lib.hid hO2; have HLN := Lib.hid hl2; have cr := (HT.out w2 HL2.out).cell r (by rw [EM.out]; exact hr); have c3 : w2.cell? ⟨g2, k, none⟩ = some (.int .u8 (bv 0)) := (by have := hO2.cell k (by rw [HLN.out]; omega); rw [g8_right _ _ _ (by rw [kright_len]; exact Nat.le_refl _), kright_len, Nat.sub_self] at this; exact this); have f3 := hfr2 k; clear hO2 hG2 hl2 hfr2)
          go_roundw
          case rel =>
            have hG3 : w2.grownBy (w2.setCell ⟨g2, k, none⟩ (.int .u8 (bv (g8 key r)))) (some g2) := grown_set (grown_refl _ _) _ _
            refine ⟨k + 1, _, HLT.out, rfl, by go_num, ?_, below_new HL2.out (by have := HL2.out.size; have := HN.out; omega) hG3 (by omega)⟩
            have hrn : r = k % m := by have := HER.out; omega
            rw [kright_succ, if_neg (by rw [EM.out]; exact HM0.out), EM.out, ← hrn]
            have hst := Own.stored (l := kright key k ++ [0]) (cap := c2) (g := g2) (base := N) (w := w2) (by rw [HLN.out]; exact HO2.out) k (g8 key r)
            have e : (kright key k ++ [0]).set k (g8 key r) = kright key k ++ [g8 key r] := by
              rw [List.set_append_right _ _ (by rw [kright_len]; exact Nat.le_refl _), kright_len, Nat.sub_self]; rfl
            rw [e, HLN.out] at hst
            exact hst
          case measure => have : k < 4 := HLT.out; simp [intOf]; omega
      · have hkn : k = 4 := by omega
        subst hkn
        clear hO hL
        go_wp2_with fail
        go_ret
        exact ⟨_, rfl, by rw [HN.out]; exact HO.out, by rw [HN.out]; exact HL.out⟩
end Go.Proofs.YtbbfjlnkhenbiaaDoor
set_option linter.unusedVariables false
set_option linter.unusedSimpArgs false
namespace Go.Proofs.YtbbfjlnkhenbiaaDoor
open Go Go.RowKit Lk
set_option maxHeartbeats 800000 in
set_option maxRecDepth 100000 in
theorem book05_any (v : Value) (l : List UInt8) (w : World) (h : SlB w v l) (hl : l.length ≤ 65536) :
    Calls Tryd.prog 11 #[v] w fun e w' => ∃ gb gt, e = .returned (.tuple #[.pointer (some ⟨gb, 0, none⟩), .bool true]) ∧ BkAt w' w.heap.size gb gt [] l ∧ Below w.heap.size w w' := by
  obtain ⟨N, hN⟩ : ∃ N, w.heap.size = N := ⟨_, rfl⟩
  have HN := Lib.hid hN
  have HT := Lib.hid (TapeNew v l w h hl)
  obtain ⟨A, c, rfl, _⟩ := h
  rw [hN] at HT ⊢
  clear hN
  go_enter Tryd.func11, Tryd.ntmps11
  go_wp2_with (first
    | (go_at_call 28; refine HT.out.mono ?_; rintro e w1 ⟨g1, tv, rfl, hg1, hO1, hB1, hL1⟩)
    | (go_at_call 29; refine (NewBook_any _ w1).mono ?_; rintro e w2 ⟨rfl, hw2⟩; have HW2 := Lib.hid hw2; clear hw2))
  have hL2 : Below w1.heap.size w1 w2 := by rw [HW2.out]; exact below_alloc (Below.refl _ _) (Nat.le_refl _) _
  have hz1 := hL1.size
  have hn := HN.out
  have hbk : w2.heap[w1.heap.size]? = some (.cells #[.slice none 0 0, .pointer (some ⟨g1, 0, none⟩)] bkT (0, 0)) := by rw [HW2.out]; exact heap_alloc_new w1 _
  have htp : TpAt w2 g1 l := by
    refine TpAt.below (w := w1) ⟨tv, hO1, hB1.slU⟩ hL2
  go_ret2
  exact ⟨_, _, rfl, ⟨⟨by omega, hg1⟩, ⟨_, hbk, rfl, .inl ⟨rfl, rfl⟩⟩, htp, fun r hr => by cases hr⟩, below_more hL1 hL2 (by omega)⟩
theorem fits3_yes (n : Nat) (w : World) (h1 : 1 ≤ n) (h2 : n ≤ 32) : Calls Tryd.prog 30 #[.int .i64 3, .int .i64 n] w fun e w' => e = .returned (.bool true) ∧ w' = w := by
  have i1 : (n : Int) ≥ 1 := by omega
  have i2 : (n : Int) ≤ 32 := by omega
  clear h1 h2
  go_enter Tryd.func30, Tryd.ntmps30
  go_wp2
  go_ret
  exact ⟨rfl, rfl⟩
theorem fits3_no (n : Nat) (w : World) (h : n < 1 ∨ 32 < n) : Calls Tryd.prog 30 #[.int .i64 3, .int .i64 n] w fun e w' => e = .returned (.bool false) ∧ w' = w := by
  by_cases h1 : n < 1
  · have i1 : ¬ (n : Int) ≥ 1 := by omega
    clear h h1
    go_enter Tryd.func30, Tryd.ntmps30
    go_wp2
    go_ret
    exact ⟨rfl, rfl⟩
  · have i1 : (n : Int) ≥ 1 := by omega
    have i2 : ¬ (n : Int) ≤ 32 := by omega
    clear h h1
    go_enter Tryd.func30, Tryd.ntmps30
    go_wp2
    go_ret
    exact ⟨rfl, rfl⟩
set_option maxHeartbeats 800000 in
set_option maxRecDepth 100000 in
theorem New3_any (v : Value) (gb : Nat) (key : List UInt8) (w : World) (h1 : 1 ≤ key.length) (h2 : key.length ≤ 32) (h : SlB w v key) : Calls Tryd.prog 12 #[.int .i64 3, v, .pointer (some ⟨gb, 0, none⟩)] w fun e w' => ∃ q, e = .returned (.tuple #[q, .nilIface]) ∧ CipO 3 w' q key gb ∧ Below w.heap.size w w' := by
  have HC := Lib.hid (clone_any v key w h (by omega))
  have HF := Lib.hid (fits3_yes key.length w h1 h2)
  obtain ⟨A, c, rfl, _⟩ := h
  have HP := Lib.hid (show 0 < key.length from h1)
  clear h1 h2
  go_enter Tryd.func12, Tryd.ntmps12
  go_wp2_with (first
    | (go_at_call 30; refine HF.out.mono ?_; rintro e w0 ⟨rfl, rfl⟩)
    | (go_at_call 31; refine HC.out.mono ?_; rintro e w1 ⟨v1, rfl, hO, hL⟩; have HO := Lib.hid hO; obtain ⟨g1, c1, rfl, _, _, _, _, _⟩ := hO.form HP.out))
  go_ret2
  exact ⟨_, rfl, ⟨w1.heap.size, _, rfl, heap_alloc_new w1 _, HO.out.slK.alloc _⟩, below_alloc hL hL.size _⟩
theorem Rows_any (rows : List Rw) (tp : List UInt8) (B gb gt : Nat) (w : World) (h : BkAt w B gb gt rows tp) : Calls Tryd.prog 20 #[.pointer (some ⟨gb, 0, none⟩)] w fun e w' => e = .returned (.int .i64 rows.length) ∧ w' = w := by
  obtain ⟨v, hg, hr⟩ := h.book
  obtain ⟨A, c, rfl⟩ : ∃ A c, v = .slice A rows.length c := by
    rcases hr.2 with ⟨e, h0⟩ | ⟨g, cap, cur, e, _⟩
    · exact ⟨none, 0, by rw [e, h0]⟩
    · exact ⟨_, _, e⟩
  have cc : w.cell? ⟨gb, 0, none⟩ = some (.slice A rows.length c) := by unfold World.cell?; rw [hg]; rfl
  clear h hg hr
  go_enter Tryd.func20, Tryd.ntmps20
  go_wp2
  go_ret
  exact ⟨rfl, rfl⟩
end Go.Proofs.YtbbfjlnkhenbiaaDoor
set_option linter.unusedVariables false
set_option linter.unusedSimpArgs false
namespace Go.Proofs.YtbbfjlnkhenbiaaDoor
open Go Go.RowKit Lk
theorem own_sliced (A : Option Addr) (k L c j : Nat) (h : (sliced A k L c 1).ownBlock = some j) : (Value.slice A L c).ownBlock = some j := by
  unfold sliced at h
  cases A with
  | none => simp [Value.ownBlock] at h
  | some ad =>
    by_cases e : c = k
    · rw [if_pos e] at h; exact h
    · rw [if_neg e] at h
      simp only [Option.map_some, Value.ownBlock, Option.some.injEq] at h ⊢
      rw [← h]
      unfold Addr.add
      split <;> simp_all
section
variable {ops : Array Oper} {rest : List Oper} {o : Oper} {a : Act} {w : World} {Q : Exit → Act → World → Prop}
theorem slice_fromK {kind : Nat} (hgd : o.guard = none) (x lo : Operand) (ho : o.op = .slice slt x (some lo) none none) (A : Option Addr) (L c k : Nat) (l : List UInt8) (hx : a.eval x = .slice A L c) (hlo : a.eval lo = .int .i64 k) (hs : SlK kind w (.slice A L c) l) (hk : k ≤ L)
    (h : ∀ v, SlK kind w v (l.drop k) → wpList Tryd.prog ops Q rest (a.put o.dst v) w) : wpList Tryd.prog ops Q (o :: rest) a w :=
  wpList_plain hgd fun _ hK => by
    unfold Oper.wp execOp
    simp only [ho, hx, hlo, Option.map_some, Option.map_none, Sem.run_bind, run_from w A L c k hk, Result.andThen_ok]
    exact hK _ _ (h _ ⟨slB_from hs.1 hk, fun j hj => hs.2 j (own_sliced _ _ _ _ _ hj)⟩)
end
theorem tpSet {w : World} {gt : Nat} {tp tp' : List UInt8} {v : Value} (h : TpAt w gt tp) (hv : SlU w v tp') : TpAt (w.setCell ⟨gt, 0, none⟩ v) gt tp' ∧ w.grownBy (w.setCell ⟨gt, 0, none⟩ v) (some gt) := by
  obtain ⟨u, h1, h2⟩ := h
  have hG : w.grownBy (w.setCell ⟨gt, 0, none⟩ v) (some gt) := grown_set (grown_refl _ _) _ _
  refine ⟨⟨v, ?_, ?_⟩, hG⟩
  · rw [heap_setCell_same w gt 0 _ _ _ h1]; rfl
  · refine hv.of fun k c f hk => ?_
    rw [hG.block k (Array.getElem?_eq_some_iff.1 hk).1 (by
      intro e
      obtain rfl : k = gt := by simpa using e
      rw [hk] at h1
      injection h1 with h1
      injection h1 with _ h1 _
      exact absurd h1 (by decide))]
    exact hk
theorem slU_cut {w : World} {A : Option Addr} {L c k : Nat} {l : List UInt8} (hs : SlU w (.slice A L c) l) (hk : k ≤ L) : SlU w (sliced A k L c 1) (l.drop k) :=
  ⟨slB_from hs.1 hk, fun j hj => hs.2 j (own_sliced _ _ _ _ _ hj)⟩
set_option maxHeartbeats 1600000 in
set_option maxRecDepth 100000 in
theorem Take_no (gt : Nat) (tp : List UInt8) (w : World) (h : TpAt w gt tp) (hl : tp.length < 16) :
    Calls Tryd.prog 102 #[.pointer (some ⟨gt, 0, none⟩), .int .i64 16] w fun e w' => ∃ v, e = .returned (.tuple #[.slice none 0 0, v]) ∧ ErV w' [(tp.length : Int)] 13 v ∧ Below w.heap.size w w' := by
  obtain ⟨u, h1, h2⟩ := h
  obtain ⟨⟨A, c, rfl, _⟩, _⟩ := h2
  obtain ⟨L, eL⟩ : ∃ L, tp.length = L := ⟨_, rfl⟩
  rw [eL] at h1 hl ⊢
  have cc : w.cell? ⟨gt, 0, none⟩ = some (.slice A L c) := by unfold World.cell?; rw [h1]; rfl
  have hs : Calls Tryd.prog 110 #[.pointer (some ⟨gt, 0, none⟩)] w fun e w' => ∃ v, e = .returned v ∧ ErV w' [(L : Int)] 13 v ∧ Below w.heap.size w w' := by
    clear h1 eL hl
    go_enter Tryd.func110, Tryd.ntmps110
    go_wp2
    go_ret
    exact ⟨_, rfl, ⟨w.heap.size, _, rfl, heap_alloc_new w _, rfl⟩, below_alloc (Below.refl _ _) (Nat.le_refl _) _⟩
  have HS := Lib.hid hs
  have hi : (16 : Int) > (L : Int) := by omega
  clear h1 eL hl hs
  go_enter Tryd.func102, Tryd.ntmps102
  go_wp2_with (go_at_call 110; refine HS.out.mono ?_; rintro e w1 ⟨v, rfl, hE, hL⟩)
  go_ret2
  exact ⟨_, rfl, hE, hL⟩
set_option maxHeartbeats 1600000 in
set_option maxRecDepth 100000 in
theorem Take_yes (gt : Nat) (tp : List UInt8) (w : World) (h : TpAt w gt tp) (hl : ¬ tp.length < 16) (hm : tp.length ≤ 1000000) :
    Calls Tryd.prog 102 #[.pointer (some ⟨gt, 0, none⟩), .int .i64 16] w fun e w' => ∃ v, e = .returned (.tuple #[v, .nilIface]) ∧ Own w' w.heap.size v (tp.take 16) ∧ TpAt w' gt (tp.drop 16) ∧ w.grownBy w' (some gt) := by
  obtain ⟨N, hN⟩ : ∃ N, w.heap.size = N := ⟨_, rfl⟩
  have HN := Lib.hid hN
  have HT := Lib.hid h
  obtain ⟨u, h1, h2⟩ := h
  have HSL := Lib.hid h2
  have hgt : gt < N := by rw [← hN]; exact (Array.getElem?_eq_some_iff.1 h1).1
  obtain ⟨⟨A, c, rfl, hA, hlc, hcm, hr⟩, _⟩ := h2
  obtain ⟨g, o, rfl, _⟩ := hr (by omega)
  have HB := Lib.hid h1
  obtain ⟨L, eL⟩ : ∃ L, tp.length = L := ⟨_, rfl⟩
  have EL := Lib.hid eL
  rw [eL] at h1 hl hlc HSL HB
  have cc : w.cell? ⟨gt, 0, none⟩ = some (.slice (some ⟨g, o, none⟩) L c) := by unfold World.cell?; rw [h1]; rfl
  have hi : ¬ (16 : Int) > (L : Int) := by omega
  have hi2 : (16 : Int) ≤ (c : Int) := by omega
  have hc16 : 16 ≤ c := by omega
  have HL16 := Lib.hid (show 16 ≤ L from by omega)
  have htk : SlB w (.slice (some ⟨g, o, none⟩) 16 c) (tp.take 16) := by
    obtain ⟨A', c', e, n1, n2, n3, n4⟩ := HSL.out.1
    cases e
    refine ⟨_, c, by rw [List.length_take_of_le (by omega)], n1, by rw [List.length_take_of_le (by omega)]; omega, n3, fun hc => ?_⟩
    obtain ⟨g, o, e, hr⟩ := n4 hc
    exact ⟨g, o, e, fun k hk => by
      rw [List.length_take_of_le (by omega)] at hk
      have := hr k (by omega)
      rw [this]
      congr 3
      unfold g8
      rw [List.getD_eq_getElem?_getD, List.getD_eq_getElem?_getD, List.getElem?_take_of_lt hk]⟩
  have HC := Lib.hid (clone_any _ (tp.take 16) w htk (by rw [List.length_take]; omega))
  have HCT := Lib.hid (fun (w1 : World) (h : SlU w1 (.slice (some ⟨g, o, none⟩) L c) tp) => slU_cut h HL16.out)
  clear h1 eL hl htk hA hcm hm
  have HLC := Lib.hid hlc
  have hcc := Classical.em (c = 16)
  rcases hcc with rfl | hcc
  all_goals
    go_enter Tryd.func102, Tryd.ntmps102
    go_wp2_with (first
      | (go_at_call 31; refine HC.out.mono ?_; rintro e w1 ⟨v1, rfl, hO1, hL1⟩; have hT1 := HT.out.below hL1; have hS1 := HSL.out.below hL1; have cc1 : w1.cell? ⟨gt, 0, none⟩ = some (.slice (some ⟨g, o, none⟩) L _) := (hL1.cell (p := ⟨gt, 0, none⟩) (by rw [HN.out]; exact hgt)).trans cc; have fz1 : w1.frozen? ⟨gt, 0, none⟩ = false := (by unfold World.frozen?; rw [hL1.block gt (by rw [HN.out]; exact hgt), HB.out]; rfl); have hct := Lib.hid (HCT.out w1 hS1)))
    have hT2 := tpSet hT1 hct.out
    unfold sliced at hT2
    first
      | (rw [if_pos rfl, show L - 16 = 0 from by have := HLC.out; omega, show 16 - 16 = 0 from rfl] at hT2)
      | (rw [if_neg hcc, Option.map_some, Nat.mul_one, show (⟨g, o, none⟩ : Addr).add 16 = ⟨g, o + 16, none⟩ from by unfold Addr.add; simp] at hT2)
    go_ret2
    refine ⟨_, rfl, ?_, hT2.1, ?_⟩
    · refine hO1.kept hT2.2 ?_
      rcases hv : v1.ownBlock with _ | j
      · exact .inl rfl
      · exact .inr (by have := (hO1.lt j hv).1; have := HN.out; simp; omega)
    · have h1 := hT2.2
      exact ⟨h1.os.trans hL1.os, h1.tape.trans hL1.tape, h1.output.trans hL1.output, Nat.le_trans hL1.size h1.size, fun i hi hr => by rw [h1.block i (Nat.lt_of_lt_of_le hi hL1.size) hr]; exact hL1.block i hi⟩
end Go.Proofs.YtbbfjlnkhenbiaaDoor
set_option linter.unusedVariables false
set_option linter.unusedSimpArgs false
namespace Lk
open Go Go.RowKit
section
variable {P : Program} {ops : Array Oper} {Q : Exit → Act → World → Prop} {K : Act → World → Prop} {i : Nat} {o : Oper} {a : Act} {w : World}
theorem yields_vbO {S : World → Prop} (hw : Region.wanted o (yielded ops a.tmps) = true) (ty : TypeId) (x : Operand) (ho : o.op = .load ty x) (g k T m : Nat) (d : TypeDesc) (L l : List Value) (hx : a.eval x = .pointer (some ⟨g, k, none⟩)) (hB : ∀ w, S w → VB w g T L) (hl : (L.drop k).take m = l) (hlm : l.length = m)
    (hu : P.underlying ty = some d) (hd : d.isRow = true) (hi : (P.info? ty).map (·.size) = some m) : YieldsIf P ops S o (.agg l.toArray) a := .inl ⟨hw, fun w hS => by
    subst hl
    unfold execOp
    simp only [ho, hx, Instr.loadAt, Instr.sureAddr, Sem.run_bind, Sem.run_pure, Result.andThen_ok, run_loadVar_mid w g k ty _ d ((hB w hS).range k m) hu hd (by simpa [hlm] using hi)]⟩
theorem yields_run {S : World → Prop} (hw : Region.wanted o (yielded ops a.tmps) = true) (v : Value) (h : ∀ w, S w → (execOp a.eval o).run P w = .ok (.value v) w) : YieldsIf P ops S o v a := .inl ⟨hw, h⟩
theorem exec_conv (o : Oper) (a : Act) (x : Operand) {s t : TypeId} (ho : o.op = .convert s t x) (u : Value) (hx : a.eval x = u) (v : Value) (w : World) (h : (convert s t u).run P w = .ok v w) : (execOp a.eval o).run P w = .ok (.value v) w := by
  unfold execOp
  simp only [ho, hx, Sem.run_bind, h, Result.andThen_ok]
  rfl
theorem results_blk2 {fn : Func} {p q : Tmp} {ty : TypeId} (h : fn.results = #[.cell p ty, .cell q ty]) (tmps : Array Value) (w : World) (g1 g2 T n e : Nat) (l m : List UInt8)
    (hp : tmps.getD p undef = .pointer (some ⟨g1, 0, none⟩)) (hq : tmps.getD q undef = .pointer (some ⟨g2, 0, none⟩)) (h1 : Blk w g1 T l) (h2 : Blk w g2 T m) (hl : l.length = n) (hm : m.length = n)
    (hu : P.underlying ty = some (.array n e)) (hi : (P.info? ty).map (·.size) = some n) :
    (results fn tmps).run P w = .ok (.tuple #[.agg (Bs l), .agg (Bs m)]) w := by
  have e1 : (loadVar ty ⟨g1, 0, none⟩).run P w = .ok (.agg (Bs l)) w := run_loadVar_row w g1 T ty (Bs l) (0, 0) _ h1 hu rfl (by rw [Bs_size, hl, hi])
  have e2 : (loadVar ty ⟨g2, 0, none⟩).run P w = .ok (.agg (Bs m)) w := run_loadVar_row w g2 T ty (Bs m) (0, 0) _ h2 hu rfl (by rw [Bs_size, hm, hi])
  have hp' : tmps[p]?.getD undef = .pointer (some ⟨g1, 0, none⟩) := by simpa using hp
  have hq' : tmps[q]?.getD undef = .pointer (some ⟨g2, 0, none⟩) := by simpa using hq
  unfold results
  rw [h]
  simp [Sem.run_bind, Sem.run_pure, Result.andThen, hp', hq', asAddr, e1, e2]
variable {rest : List Oper}
theorem box_v1 (hgd : o.guard = none) (ty : TypeId) (x : Operand) (ho : o.op = .box ty x) (v : Value) (hx : a.eval x = v) (hv : v.cells = #[v])
    (h : ∀ w1, VB w1 w.heap.size ty [v] → w.grownBy w1 none → w1.heap.size = w.heap.size + 1 → wpList P ops Q rest (a.put o.dst (.pointer (some ⟨w.heap.size, 0, none⟩))) w1) : wpList P ops Q (o :: rest) a w :=
  wpList_plain hgd fun _ hK => by
    unfold Oper.wp execOp
    simp only [ho, Sem.run_bind, hx, run_box ty _ w, Result.andThen_ok, hv]
    exact hK _ _ (h _ (heap_alloc_new w _) (grown_alloc (grown_refl w none) _) (by show (w.heap.push _).size = _; simp))
theorem store_vro (hgd : o.guard = none) (ty : TypeId) (x y : Operand) (ho : o.op = .store ty x y) (g T m : Nat) (l : List Value) (hx : a.eval x = .pointer (some ⟨g, 0, none⟩)) (hy : a.eval y = .agg l.toArray) (hR : Row w g T m) (h2 : ∀ u ∈ l, u.oneCell' = true) (hm : l.length = m)
    (hi : (P.info? ty).map (·.size) = some m)
    (h : ∀ w1, VB w1 g T l → w.grownBy w1 (some g) → w1.heap.size = w.heap.size → wpList P ops Q rest (a.put o.dst undef) w1) : wpList P ops Q (o :: rest) a w := by
  obtain ⟨old, hg, hs⟩ := hR
  refine wpList_store_row hgd ty x y ho g l.toArray hx hy T old hg (by rw [hi]; simp [hm]) (by rw [hs]; simp [hm]) (all_oneCell_toArray h2) ?_
  refine h _ ?_ ?_ (size_setRow w g _)
  · exact setRow_heap w g old _ T _ hg
  · exact ⟨rfl, rfl, rfl, Nat.le_of_eq (size_setRow w g _).symm, fun i hi hr => setRow_other w g i _ (by rintro rfl; exact hr rfl)⟩
end
end Lk
namespace Go.Proofs.YtbbfjlnkhenbiaaDoor
open Go Go.RowKit Lk
theorem arr16_at (A : Option Addr) (c : Nat) (w : World) : (Instr.arrayAt 41 (.slice A 16 c)).run Tryd.prog w = .ok (.pointer A) w := by
  simp [Instr.arrayAt, run_underlying (show Tryd.prog.underlying 41 = some (.array 16 5) from by kernel_rfl)]
end Go.Proofs.YtbbfjlnkhenbiaaDoor
set_option linter.unusedVariables false
set_option linter.unusedSimpArgs false
namespace Lk
open Go Go.RowKit
theorem rwc_i (r : Rw) (h : rwOk r) : ((rwc r).drop 1).take 16 = Bl r.i := by
  unfold rwc
  rw [List.drop_succ_cons, List.drop_zero, List.take_append_of_le_length (by rw [Bl_len, h.1]; exact Nat.le_refl _), List.take_of_length_le (by rw [Bl_len, h.1]; exact Nat.le_refl _)]
theorem rwc_o (r : Rw) (h : rwOk r) : ((rwc r).drop 17).take 16 = Bl r.o := by
  unfold rwc
  rw [List.drop_succ_cons, List.drop_append_of_le_length (by rw [Bl_len, h.1]; exact Nat.le_refl _), List.drop_of_length_le (by rw [Bl_len, h.1]; exact Nat.le_refl _), List.nil_append, List.take_of_length_le (by rw [Bl_len, h.2]; exact Nat.le_refl _)]
end Lk
namespace Go.Proofs.YtbbfjlnkhenbiaaDoor
open Go Go.RowKit Lk
set_option maxHeartbeats 1600000 in
set_option maxRecDepth 100000 in
theorem sides_any (r : Rw) (b1 : Nat) (back : Bool) (w : World) (hr : rwOk r) (hb : w.cell? ⟨b1, 0, none⟩ = some (.bool back)) :
    Calls Tryd.prog 77 #[.agg (rwc r).toArray, .pointer (some ⟨b1, 0, none⟩)] w fun e w' => e = .returned (.tuple #[.agg (Bs (rfrom back r)), .agg (Bs (rto back r))]) ∧ Below w.heap.size w w' := by
  obtain ⟨N, hN⟩ : ∃ N, w.heap.size = N := ⟨_, rfl⟩
  have HN := Lib.hid hN
  have HR := Lib.hid hr
  have hb1 := block_of_cell hb
  have HB := Lib.hid (fun (w1 : World) (h : w.grownBy w1 none) => cell_old hb h (by simp))
  cases back
  · go_enter Tryd.func77, Tryd.ntmps77
    go_wp2_with (first
      | ((with_reducible show wpList _ _ _ _ _ w); refine box_vb (w := w) rfl 153 _ rfl (rwc r) (by rfl) ?_; intro w0 hA0 hG0 hz0; rw [HN.out] at hA0 hz0 ⊢; have cc0 := HB.out w0 hG0)
      | ((with_reducible show wpList _ _ _ _ _ w0); refine alloc_row (w := w0) rfl 41 rfl (.agg (Bs (List.replicate 16 0))) 16 (fun _ => by kernel_rfl) rfl ?_; intro w1 hR1 _ hG1 hz1; have hA1 := hA0.old hG1 (by simp); rw [hz0] at hR1 hz1 ⊢; have cc1 := cell_old cc0 hG1 (by simp))
      | ((with_reducible show wpList _ _ _ _ _ w1); refine alloc_row (w := w1) rfl 41 rfl (.agg (Bs (List.replicate 16 0))) 16 (fun _ => by kernel_rfl) rfl ?_; intro w2 hR2 _ hG2 hz2; have hA2 := hA1.old hG2 (by simp); have hS2 := hR1.old hG2 (by simp); rw [hz1] at hR2 hz2 ⊢; have cc2 := cell_old cc1 hG2 (by simp)))
    have hl1 : (r.i).length = 16 := HR.out.1
    have hl2 : (r.o).length = 16 := HR.out.2
    have hM2 : Below N w w2 := below_none (below_none (below_none (Below.refl _ _) (by rw [HN.out]; omega) hG0) (by omega) hG1) (by omega) hG2
    refine wp_region_held (S := fun w' => VB w' N 153 (rwc r) ∧ Row w' (N + 1) 41 16 ∧ Row w' (N + 1 + 1) 41 16) (by kernel_rfl) ?_
    show wpAnyH _ _ _ _ _ 6 _ _ w2.drew
    have hS : VB w2.drew N 153 (rwc r) ∧ Row w2.drew (N + 1) 41 16 ∧ Row w2.drew (N + 1 + 1) 41 16 := ⟨hA2, hS2, hR2⟩
    refine tkw 0 10 rfl rfl (by kernel_rfl) (.pointer (some ⟨N, 1, none⟩)) idq (fun _ => by kernel_rfl) hS ?_
    refine tkl 1 11 rfl rfl (by kernel_rfl) idq (yields_vbO (by kernel_rfl) 41 _ rfl N 1 153 16 (.array 16 5) (rwc r) (Bl (r.i)) (by kernel_rfl) (fun w' h => h.1) (rwc_i r HR.out) (by rw [Bl_len]; exact hl1) (by kernel_rfl) rfl (by kernel_rfl)) hS ?_
    refine tkw 2 12 rfl rfl (by kernel_rfl) (.pointer (some ⟨N, 17, none⟩)) idq (fun _ => by kernel_rfl) hS ?_
    refine tkl 3 13 rfl rfl (by kernel_rfl) idq (yields_vbO (by kernel_rfl) 41 _ rfl N 17 153 16 (.array 16 5) (rwc r) (Bl (r.o)) (by kernel_rfl) (fun w' h => h.1) (rwc_o r HR.out) (by rw [Bl_len]; exact hl2) (by kernel_rfl) rfl (by kernel_rfl)) hS ?_
    have hMd : Below N w w2.drew := hM2.drew
    have hzd : w2.drew.heap.size = N + 1 + 1 + 1 := hz2
    generalize w2.drew = w3 at hS hMd hzd ⊢
    refine anyH_one 4 (by kernel_rfl) ?_
    refine ⟨wpOp_store rfl (by kernel_rfl) 41 _ _ rfl (N + 1) 41 16 (r.i) (by kernel_rfl) (by kernel_rfl) hS.2.1 hl1 (by kernel_rfl) ?_⟩
    intro w4 hB4 hG4 hz4
    have hR4 : Row w4 (N + 1 + 1) 41 16 := hS.2.2.old hG4 (by simp)
    have hS4 : VB w4 N 153 (rwc r) ∧ Row w4 (N + 1) 41 16 ∧ Row w4 (N + 1 + 1) 41 16 := ⟨hS.1.old hG4 (by first | (simp; done) | (simp; omega)), hB4.row hl1, hR4⟩
    refine ⟨hS4, ?_⟩
    refine anyH_one 5 (by kernel_rfl) ?_
    refine ⟨wpOp_store rfl (by kernel_rfl) 41 _ _ rfl (N + 1 + 1) 41 16 (r.o) (by kernel_rfl) (by kernel_rfl) hR4 hl2 (by kernel_rfl) ?_⟩
    intro w5 hB5 hG5 hz5
    refine ⟨⟨hS4.1.old hG5 (by first | (simp; done) | (simp; omega)), hS4.2.1.old hG5 (by simp), hB5.row hl2⟩, ?_⟩
    refine wpAnyH_done (by kernel_rfl) ?_ _
    simp only [Act.put, List.setIfInBounds_toArray, List.set_cons_succ, List.set_cons_zero]
    have hB45 := hB4.old hG5 (by simp)
    have hM4 : Below N w w4 := below_new hMd (by omega) hG4 (by omega)
    have hM5 : Below N w w5 := below_new hM4 (by omega) hG5 (by omega)
    clear hS hS4 hR4 hG4 hG5 hB4 hMd hM2 hM4
    go_wp2
    refine bodyPost_ret (results_blk2 rfl _ _ (N + 1) (N + 1 + 1) 41 16 5 (r.i) (r.o) rfl rfl hB45 hB5 hl1 hl2 (by kernel_rfl) (by kernel_rfl)) rfl ⟨rfl, by rw [HN.out]; exact hM5⟩
  · go_enter Tryd.func77, Tryd.ntmps77
    go_wp2_with (first
      | ((with_reducible show wpList _ _ _ _ _ w); refine box_vb (w := w) rfl 153 _ rfl (rwc r) (by rfl) ?_; intro w0 hA0 hG0 hz0; rw [HN.out] at hA0 hz0 ⊢; have cc0 := HB.out w0 hG0)
      | ((with_reducible show wpList _ _ _ _ _ w0); refine alloc_row (w := w0) rfl 41 rfl (.agg (Bs (List.replicate 16 0))) 16 (fun _ => by kernel_rfl) rfl ?_; intro w1 hR1 _ hG1 hz1; have hA1 := hA0.old hG1 (by simp); rw [hz0] at hR1 hz1 ⊢; have cc1 := cell_old cc0 hG1 (by simp))
      | ((with_reducible show wpList _ _ _ _ _ w1); refine alloc_row (w := w1) rfl 41 rfl (.agg (Bs (List.replicate 16 0))) 16 (fun _ => by kernel_rfl) rfl ?_; intro w2 hR2 _ hG2 hz2; have hA2 := hA1.old hG2 (by simp); have hS2 := hR1.old hG2 (by simp); rw [hz1] at hR2 hz2 ⊢; have cc2 := cell_old cc1 hG2 (by simp)))
    have hl1 : (r.o).length = 16 := HR.out.2
    have hl2 : (r.i).length = 16 := HR.out.1
    have hM2 : Below N w w2 := below_none (below_none (below_none (Below.refl _ _) (by rw [HN.out]; omega) hG0) (by omega) hG1) (by omega) hG2
    refine wp_region_held (S := fun w' => VB w' N 153 (rwc r) ∧ Row w' (N + 1) 41 16 ∧ Row w' (N + 1 + 1) 41 16) (by kernel_rfl) ?_
    show wpAnyH _ _ _ _ _ 6 _ _ w2.drew
    have hS : VB w2.drew N 153 (rwc r) ∧ Row w2.drew (N + 1) 41 16 ∧ Row w2.drew (N + 1 + 1) 41 16 := ⟨hA2, hS2, hR2⟩
    refine tkw 0 6 rfl rfl (by kernel_rfl) (.pointer (some ⟨N, 17, none⟩)) idq (fun _ => by kernel_rfl) hS ?_
    refine tkl 1 7 rfl rfl (by kernel_rfl) idq (yields_vbO (by kernel_rfl) 41 _ rfl N 17 153 16 (.array 16 5) (rwc r) (Bl (r.o)) (by kernel_rfl) (fun w' h => h.1) (rwc_o r HR.out) (by rw [Bl_len]; exact hl1) (by kernel_rfl) rfl (by kernel_rfl)) hS ?_
    refine tkw 2 8 rfl rfl (by kernel_rfl) (.pointer (some ⟨N, 1, none⟩)) idq (fun _ => by kernel_rfl) hS ?_
    refine tkl 3 9 rfl rfl (by kernel_rfl) idq (yields_vbO (by kernel_rfl) 41 _ rfl N 1 153 16 (.array 16 5) (rwc r) (Bl (r.i)) (by kernel_rfl) (fun w' h => h.1) (rwc_i r HR.out) (by rw [Bl_len]; exact hl2) (by kernel_rfl) rfl (by kernel_rfl)) hS ?_
    have hMd : Below N w w2.drew := hM2.drew
    have hzd : w2.drew.heap.size = N + 1 + 1 + 1 := hz2
    generalize w2.drew = w3 at hS hMd hzd ⊢
    refine anyH_one 4 (by kernel_rfl) ?_
    refine ⟨wpOp_store rfl (by kernel_rfl) 41 _ _ rfl (N + 1) 41 16 (r.o) (by kernel_rfl) (by kernel_rfl) hS.2.1 hl1 (by kernel_rfl) ?_⟩
    intro w4 hB4 hG4 hz4
    have hR4 : Row w4 (N + 1 + 1) 41 16 := hS.2.2.old hG4 (by simp)
    have hS4 : VB w4 N 153 (rwc r) ∧ Row w4 (N + 1) 41 16 ∧ Row w4 (N + 1 + 1) 41 16 := ⟨hS.1.old hG4 (by first | (simp; done) | (simp; omega)), hB4.row hl1, hR4⟩
    refine ⟨hS4, ?_⟩
    refine anyH_one 5 (by kernel_rfl) ?_
    refine ⟨wpOp_store rfl (by kernel_rfl) 41 _ _ rfl (N + 1 + 1) 41 16 (r.i) (by kernel_rfl) (by kernel_rfl) hR4 hl2 (by kernel_rfl) ?_⟩
    intro w5 hB5 hG5 hz5
    refine ⟨⟨hS4.1.old hG5 (by first | (simp; done) | (simp; omega)), hS4.2.1.old hG5 (by simp), hB5.row hl2⟩, ?_⟩
    refine wpAnyH_done (by kernel_rfl) ?_ _
    simp only [Act.put, List.setIfInBounds_toArray, List.set_cons_succ, List.set_cons_zero]
    have hB45 := hB4.old hG5 (by simp)
    have hM4 : Below N w w4 := below_new hMd (by omega) hG4 (by omega)
    have hM5 : Below N w w5 := below_new hM4 (by omega) hG5 (by omega)
    clear hS hS4 hR4 hG4 hG5 hB4 hMd hM2 hM4
    go_wp2
    refine bodyPost_ret (results_blk2 rfl _ _ (N + 1) (N + 1 + 1) 41 16 5 (r.o) (r.i) rfl rfl hB45 hB5 hl1 hl2 (by kernel_rfl) (by kernel_rfl)) rfl ⟨rfl, by rw [HN.out]; exact hM5⟩
end Go.Proofs.YtbbfjlnkhenbiaaDoor
set_option linter.unusedVariables false
set_option linter.unusedSimpArgs false
namespace Lk
open Go Go.RowKit
theorem ost_eq (a b : List UInt8) : ((ost a).toList == (ost b).toList) = (a == b) := by
  rw [ByteArray.toList_eq, ByteArray.toList_eq]
  unfold ost
  simp
end Lk
namespace Go.Proofs.YtbbfjlnkhenbiaaDoor
open Go Go.RowKit Lk
/-- what the oracle's closures have captured -/
structure Cap (w : World) (bs b1 bk : Nat) (key : List UInt8) (back : Bool) : Prop where
  sides : w.cell? ⟨bs, 0, none⟩ = some (.func (.func 77) #[] #[.pointer (some ⟨b1, 0, none⟩)])
  back : w.cell? ⟨b1, 0, none⟩ = some (.bool back)
  key : w.cell? ⟨bk, 0, none⟩ = some (.string (ost key))
theorem Cap.below {w w1 : World} {bs b1 bk : Nat} {key : List UInt8} {back : Bool} (h : Cap w bs b1 bk key back) (hL : Below w.heap.size w w1) : Cap w1 bs b1 bk key back :=
  ⟨(hL.cell (block_of_cell h.sides)).trans h.sides, (hL.cell (block_of_cell h.back)).trans h.back, (hL.cell (block_of_cell h.key)).trans h.key⟩
theorem Cap.grown {w w1 : World} {bs b1 bk : Nat} {key : List UInt8} {back : Bool} (h : Cap w bs b1 bk key back) (hL : w.grownBy w1 none) : Cap w1 bs b1 bk key back := h.below (below_of_grown hL)
set_option maxHeartbeats 1600000 in
set_option maxRecDepth 100000 in
theorem taken_row (r : Rw) (bs b1 bk gy : Nat) (key y : List UInt8) (back : Bool) (w : World) (hr : rwOk r) (hc : Cap w bs b1 bk key back) (hy : Blk w gy 41 y) (hyl : y.length = 16) :
    Calls Tryd.prog 81 #[.agg (rwc r).toArray, .pointer (some ⟨bs, 0, none⟩), .pointer (some ⟨bk, 0, none⟩), .pointer (some ⟨gy, 0, none⟩)] w fun e w' => e = .returned (.bool (r.k == key && rto back r == y)) ∧ Below w.heap.size w w' := by
  obtain ⟨N, hN⟩ : ∃ N, w.heap.size = N := ⟨_, rfl⟩
  have HN := Lib.hid hN
  have HR := Lib.hid hr
  have HC := Lib.hid hc
  have HY := Lib.hid hy
  have HYL := Lib.hid hyl
  have HSd := Lib.hid (fun (w1 : World) (h : Cap w1 bs b1 bk key back) => sides_any r b1 back w1 hr h.back)
  have HRL := Lib.hid (rwc_len hr)
  have HTL := Lib.hid (show (rto back r).length = 16 from by cases back <;> simp [rto, hr.1, hr.2])
  have HFL := Lib.hid (show (rfrom back r).length = 16 from by cases back <;> simp [rfrom, hr.1, hr.2])
  have hq := fun w => run_eql_bs (P := Tryd.prog) w (t := 41) (e := 5) (rto back r) y (by kernel_rfl) (by kernel_rfl) (by kernel_rfl) (by kernel_rfl) HTL.out hyl
  have hks := ost_eq r.k key
  obtain ⟨p, hp⟩ : ∃ p, (r.k == key) = p := ⟨_, rfl⟩
  obtain ⟨q, hqq⟩ : ∃ q, (rto back r == y) = q := ⟨_, rfl⟩
  rw [hp] at hks ⊢
  rw [hqq] at hq ⊢
  obtain ⟨rt, ert⟩ : ∃ rt, rto back r = rt := ⟨_, rfl⟩
  rw [ert] at hq HSd HTL
  obtain ⟨rf, efr⟩ : ∃ rf, rfrom back r = rf := ⟨_, rfl⟩
  rw [efr] at HSd HFL
  have hrk : (rwc r)[0]? = some (.string (ost r.k)) := rfl
  have HRK := Lib.hid hrk
  obtain ⟨rc, erc⟩ : ∃ rc, rwc r = rc := ⟨_, rfl⟩
  rw [erc] at HSd HRL HRK ⊢
  clear hN hr hc hy hyl hp hqq ert efr erc hrk
  cases p
  all_goals
    go_enter Tryd.func81, Tryd.ntmps81
    go_wp2_with (first
      | ((with_reducible show wpList _ _ _ _ _ w); refine box_vb (w := w) rfl 153 _ rfl rc (by rfl) ?_; intro w0 hA0 hG0 hz0; rw [HN.out] at hA0 hz0 ⊢; have hC0 := HC.out.grown hG0; have cs0 := hC0.sides; have hY0 := HY.out.old hG0 (by simp); have hM0 : Below N w w0 := below_none (Below.refl _ _) (by rw [HN.out]; omega) hG0)
      | ((with_reducible show wpList _ _ _ _ _ w0); refine load_vb (w := w0) rfl 153 _ rfl N 0 153 33 _ rc rc (by rfl) hA0 (by rw [List.drop_zero, List.take_of_length_le (by rw [HRL.out]; exact Nat.le_refl _)]) HRL.out Tryd.underlying153 rfl (by kernel_rfl) ?_)
      | (go_at_call 77; refine (HSd.out w0 hC0).mono ?_; rintro e w1 ⟨rfl, hL1⟩; have hC1 := hC0.below hL1; have ck1 := hC1.key; have hY1 := hY0.under hL1; have hA1 := hA0.next hL1; have cr1 := hA1.cell 0 _ HRK.out; have hM1 := below_more hM0 hL1 (by omega); have hz1 := hL1.size)
      | ((with_reducible show wpList _ _ _ _ _ w1); refine alloc_row (w := w1) rfl 41 rfl (.agg (Bs (List.replicate 16 0))) 16 (fun _ => by kernel_rfl) rfl ?_; intro w2 hR2 _ hG2 hz2; have hY2 := hY1.old hG2 (by simp); have hA2 := hA1.old hG2 (by simp); have hC2 := hC1.grown hG2; have hM2 := below_none hM1 (by omega) hG2; obtain ⟨G, eG⟩ : ∃ G, w1.heap.size = G := ⟨_, rfl⟩; rw [eG] at hR2 hz2 hz1 ⊢)
      | ((with_reducible show wpList _ _ _ _ _ w2); refine alloc_row (w := w2) rfl 41 rfl (.agg (Bs (List.replicate 16 0))) 16 (fun _ => by kernel_rfl) rfl ?_; intro w3 hR3 _ hG3 hz3; have hY3 := hY2.old hG3 (by simp); have hA3 := hA2.old hG3 (by simp); have hC3 := hC2.grown hG3; have hR32 := hR2.old hG3 (by simp); have hM3 := below_none hM2 (by omega) hG3; rw [hz2] at hR3 hz3 ⊢)
      | ((with_reducible show wpList _ _ _ _ _ w3); (refine store_blk (w := w3) rfl 41 _ _ rfl G 41 16 rf (by rfl) (by rfl) hR32 HFL.out (by kernel_rfl) ?_; intro w4 hB4 hG4 hz4; have hY4 := hY3.old hG4 (by simp; have := hY1.lt; omega); have hA4 := hA3.old hG4 (by simp; omega); have hR4 := hR3.old hG4 (by simp); have hC4 : Cap w4 bs b1 bk key back := ⟨cell_old hC3.sides hG4 (by simp; have : bs < w1.heap.size := block_of_cell hC1.sides; omega), cell_old hC3.back hG4 (by simp; have : b1 < w1.heap.size := block_of_cell hC1.back; omega), cell_old hC3.key hG4 (by simp; have : bk < w1.heap.size := block_of_cell hC1.key; omega)⟩; have hM4 := below_new hM3 (by omega) hG4 (by omega)))
      | ((with_reducible show wpList _ _ _ _ _ w4); refine store_blk (w := w4) rfl 41 _ _ rfl (G + 1) 41 16 rt (by rfl) (by rfl) hR4 HTL.out (by kernel_rfl) ?_; intro w5 hB5 hG5 hz5; have hY5 := hY4.old hG5 (by simp; have := hY1.lt; omega); have hA5 := hA4.old hG5 (by simp; omega); have cr5 := hA5.cell 0 _ HRK.out; have ck5 := cell_old hC4.key hG5 (by simp; have : bk < w1.heap.size := block_of_cell hC1.key; omega); have hM5 := below_new hM4 (by omega) hG5 (by omega))
      | ((with_reducible show wpList _ _ _ _ _ w5); refine load_blk (w := w5) rfl 41 _ rfl (G + 1) 41 16 5 rt (by rfl) hB5 HTL.out (by kernel_rfl) (by kernel_rfl) ?_)
      | ((with_reducible show wpList _ _ _ _ _ w5); refine load_blk_g (w := w5) rfl 41 _ rfl (G + 1) 41 16 5 rt (by rfl) hB5 HTL.out (by kernel_rfl) (by kernel_rfl) ?_)
      | ((with_reducible show wpList _ _ _ _ _ w5); refine load_blk_g (w := w5) rfl 41 _ rfl gy 41 16 5 y (by rfl) hY5 HYL.out (by kernel_rfl) (by kernel_rfl) ?_))
    go_ret
    exact ⟨rfl, by rw [HN.out]; exact hM5⟩
end Go.Proofs.YtbbfjlnkhenbiaaDoor
set_option linter.unusedVariables false
set_option linter.unusedSimpArgs false
namespace Lk
open Go Go.RowKit
theorem flat_len : ∀ {rows : List Rw}, (∀ r ∈ rows, rwOk r) → (rows.flatMap rwc).length = rows.length * 33
  | [], _ => rfl
  | r :: rows, h => by
    rw [List.flatMap_cons, List.length_append, rwc_len (h r (List.mem_cons_self ..)), flat_len (fun q hq => h q (List.mem_cons_of_mem _ hq)), List.length_cons]
    omega
theorem flat_get : ∀ {rows : List Rw} (k : Nat) (r : Rw) (j : Nat) (v : Value), (∀ r ∈ rows, rwOk r) → rows[k]? = some r → (rwc r)[j]? = some v → (rows.flatMap rwc)[33 * k + j]? = some v
  | [], k, r, j, v, _, h, _ => by simp at h
  | r0 :: rows, 0, r, j, v, hok, h, hj => by
    simp at h
    subst h
    rw [List.flatMap_cons, List.getElem?_append_left (by have := (List.getElem?_eq_some_iff.1 hj).1; omega)]
    simpa using hj
  | r0 :: rows, k + 1, r, j, v, hok, h, hj => by
    rw [List.flatMap_cons, List.getElem?_append_right (by rw [rwc_len (hok r0 (List.mem_cons_self ..))]; omega), rwc_len (hok r0 (List.mem_cons_self ..))]
    rw [show 33 * (k + 1) + j - 33 = 33 * k + j by omega]
    exact flat_get k r j v (fun q hq => hok q (List.mem_cons_of_mem _ hq)) (by simpa using h) hj
/-- a row of the book in memory -/
theorem OwnR.range {w : World} {B g n c : Nat} {rows : List Rw} (h : OwnR w B (.slice (some ⟨g, 0, none⟩) n c) rows) (hok : ∀ r ∈ rows, rwOk r) (k : Nat) (r : Rw) (hk : rows[k]? = some r) : w.rangeAt g (33 * k) (rwc r) := by
  intro j v hj
  have hn : n = rows.length := by
    rcases h.2 with ⟨e, _⟩ | ⟨g', c', cur, e, _⟩
    · cases e
    · cases e; rfl
  unfold OwnR at h
  subst hn
  have hkl := (List.getElem?_eq_some_iff.1 hk).1
  have hjl := (List.getElem?_eq_some_iff.1 hj).1
  rw [rwc_len (hok r (List.mem_of_getElem? hk))] at hjl
  rw [World.ownsRow.cellAt (h := h) (33 * k + j) (by omega)]
  exact flat_get k r j v hok hk hj
theorem OwnR.form {w : World} {B : Nat} {v : Value} {rows : List Rw} (h : OwnR w B v rows) (hl : 0 < rows.length) : ∃ g c, v = .slice (some ⟨g, 0, none⟩) rows.length c ∧ rows.length ≤ c := by
  rcases h.2 with ⟨_, h0⟩ | ⟨g, cap, cur, e, _, _, h1, _⟩
  · omega
  · exact ⟨g, cap, e, h1⟩
theorem OwnR.formc {w : World} {B : Nat} {v : Value} {rows : List Rw} (h : OwnR w B v rows) : ∃ A c, v = .slice A rows.length c := by
  rcases h.2 with ⟨e, h0⟩ | ⟨g, cap, cur, e, _⟩
  · exact ⟨none, 0, by rw [e, h0]⟩
  · exact ⟨_, _, e⟩
end Lk
namespace Go.Proofs.YtbbfjlnkhenbiaaDoor
open Go Go.RowKit Lk
theorem any_none {rows : List Rw} {p : Rw → Bool} (h : ∀ (j : Nat) (r : Rw), rows[j]? = some r → p r = false) : rows.any p = false := by
  rw [List.any_eq_false]
  intro r hr
  obtain ⟨j, hj⟩ := List.mem_iff_getElem?.1 hr
  simp [h j r hj]
set_option maxHeartbeats 1600000 in
set_option maxRecDepth 100000 in
theorem index_any (vr : Value) (rows : List Rw) (B bs b1 bk gy : Nat) (key y : List UInt8) (back : Bool) (w : World) (hr : OwnR w B vr rows) (hok : ∀ r ∈ rows, rwOk r) (hrl : rows.length ≤ 1000000) (hc : Cap w bs b1 bk key back) (hy : Blk w gy 41 y) (hyl : y.length = 16) :
    Calls Tryd.prog 103 #[vr, .func (.func 81) #[] #[.pointer (some ⟨bs, 0, none⟩), .pointer (some ⟨bk, 0, none⟩), .pointer (some ⟨gy, 0, none⟩)]] w fun e w' => ∃ z : Int, e = .returned (.int .i64 z) ∧ decide (z ≥ 0) = ptaken rows key y back ∧ Below w.heap.size w w' := by
  obtain ⟨N, hN⟩ : ∃ N, w.heap.size = N := ⟨_, rfl⟩
  have HN := Lib.hid hN
  have HRW := Lib.hid hr
  have HOK := Lib.hid hok
  have HRL := Lib.hid hrl
  have HTK := Lib.hid (fun (r : Rw) (w1 : World) (h : Below N w w1) (hr : r ∈ rows) => taken_row r bs b1 bk gy key y back w1 (hok r hr) (hc.below (by rw [hN]; exact h)) (hy.under (by rw [hN]; exact h)) hyl)
  obtain ⟨A, c, rfl⟩ := hr.formc
  obtain ⟨L, eL⟩ : ∃ L, rows.length = L := ⟨_, rfl⟩
  have EL := Lib.hid eL
  rw [eL] at HRW ⊢
  clear hN hr hok hrl hc hy hyl eL
  go_enter Tryd.func103, Tryd.ntmps103
  go_wp2
  go_loopw [8] (fun i wr => ∃ k : Nat, k ≤ L ∧ i = .int .i64 k ∧ (∀ (j : Nat) (r : Rw), j < k → rows[j]? = some r → (r.k == key && rto back r == y) = false) ∧ Below N w wr) (fun i _ => L - (intOf i).toNat)
  case atStart => exact ⟨0, by omega, rfl, fun j r hj => by omega, Below.refl _ _⟩
  case round =>
    obtain ⟨k, hk, rfl, hno, hM⟩ := hrel
    have HNO := Lib.hid hno
    have HM := Lib.hid hM
    clear hno hM
    by_cases hlt : k < L
    · have hik : (k : Int) < (L : Int) := by omega
      have HLT := Lib.hid hlt
      obtain ⟨g, c', e, hlc⟩ := HRW.out.form (by rw [EL.out]; omega)
      cases e
      have hkl : k < rows.length := by rw [EL.out]; exact hlt
      obtain ⟨r, er⟩ : ∃ r, rows[k] = r := ⟨_, rfl⟩
      have hrk : rows[k]? = some r := by rw [List.getElem?_eq_getElem hkl, er]
      have hR1 := (HRW.out.below (w' := wr) (by rw [HN.out]; exact HM.out)).range HOK.out k r hrk
      have hmem : r ∈ rows := List.mem_of_getElem? hrk
      have HCT := Lib.hid (HTK.out r wr HM.out hmem)
      have HRK := Lib.hid hrk
      have HRCL := Lib.hid (rwc_len (HOK.out r hmem))
      obtain ⟨q, hq⟩ : ∃ q, (r.k == key && rto back r == y) = q := ⟨_, rfl⟩
      rw [hq] at HCT
      have HQ := Lib.hid hq
      obtain ⟨rc, erc⟩ : ∃ rc, rwc r = rc := ⟨_, rfl⟩
      rw [erc] at HCT HRCL hR1
      have hp33 : k * 33 = 33 * k := by omega
      clear hkl er hrk hmem hq erc hlc
      cases q
      · go_wp2_with (first
          | ((with_reducible show wpList _ _ _ _ _ wr); refine wpList_load_mid (w := wr) rfl 153 _ rfl g (33 * k) (by first | rfl | (rw [← hp33]; rfl)) rc _ hR1 Tryd.underlying153 rfl (by rw [HRCL.out]; kernel_rfl) ?_)
          | (go_at_call 81; refine HCT.out.mono ?_; rintro e w2 ⟨rfl, hL2⟩))
        refine ⟨⟨k + 1, by have := HLT.out; omega, by have := HLT.out; have := HRL.out; rw [show wrap64 ((k : Int) + 1) = ((k + 1 : Nat) : Int) from by unfold wrap64; omega], fun j r2 hj hj2 => ?_, below_more HM.out hL2 (by have := HM.out.size; have := HN.out; omega)⟩, by have := HLT.out; have := HRL.out; rw [show wrap64 ((k : Int) + 1) = (k : Int) + 1 from by unfold wrap64; omega]; show rows.length - ((k : Int) + 1).toNat < rows.length - (k : Int).toNat; omega⟩
        by_cases e : j = k
        · subst e
          rw [HRK.out] at hj2
          injection hj2 with hj2
          rw [← hj2]; exact HQ.out
        · exact HNO.out j r2 (by omega) hj2
      · go_wp2_with (first
          | ((with_reducible show wpList _ _ _ _ _ wr); refine wpList_load_mid (w := wr) rfl 153 _ rfl g (33 * k) (by first | rfl | (rw [← hp33]; rfl)) rc _ hR1 Tryd.underlying153 rfl (by rw [HRCL.out]; kernel_rfl) ?_)
          | (go_at_call 81; refine HCT.out.mono ?_; rintro e w2 ⟨rfl, hL2⟩))
        go_ret
        refine ⟨_, rfl, ?_, by rw [HN.out]; exact below_more HM.out hL2 (by have := HM.out.size; have := HN.out; omega)⟩
        have h1 : ptaken rows key y back = true := by
          unfold ptaken
          rw [List.any_eq_true]
          exact ⟨r, List.mem_of_getElem? HRK.out, HQ.out⟩
        rw [h1]
        exact decide_eq_true (by omega)
    · have hik : ¬ (k : Int) < (L : Int) := by omega
      have HE := Lib.hid (show ptaken rows key y back = false from any_none fun j r hj => HNO.out j r (by have := (List.getElem?_eq_some_iff.1 hj).1; have := EL.out; omega) hj)
      clear hlt
      go_wp2
      go_ret
      exact ⟨_, rfl, by rw [HE.out]; decide, by rw [HN.out]; exact HM.out⟩
set_option maxHeartbeats 1600000 in
set_option maxRecDepth 100000 in
theorem contains_any (vr : Value) (rows : List Rw) (B bs b1 bk gy : Nat) (key y : List UInt8) (back : Bool) (w : World) (hr : OwnR w B vr rows) (hok : ∀ r ∈ rows, rwOk r) (hrl : rows.length ≤ 1000000) (hc : Cap w bs b1 bk key back) (hy : Blk w gy 41 y) (hyl : y.length = 16) :
    Calls Tryd.prog 80 #[vr, .func (.func 81) #[] #[.pointer (some ⟨bs, 0, none⟩), .pointer (some ⟨bk, 0, none⟩), .pointer (some ⟨gy, 0, none⟩)]] w fun e w' => e = .returned (.bool (ptaken rows key y back)) ∧ Below w.heap.size w w' := by
  have HI := Lib.hid (index_any vr rows B bs b1 bk gy key y back w hr hok hrl hc hy hyl)
  obtain ⟨P, hP⟩ : ∃ P, ptaken rows key y back = P := ⟨_, rfl⟩
  rw [hP] at HI ⊢
  obtain ⟨A, c, rfl⟩ := hr.formc
  clear hr hok hrl hc hy hyl hP
  go_enter Tryd.func80, Tryd.ntmps80
  go_wp2_with (go_at_call 103; refine HI.out.mono ?_; rintro e w1 ⟨z, rfl, hz, hL1⟩; have HZ := Lib.hid hz; clear hz)
  go_ret
  exact ⟨by rw [← HZ.out]; rfl, hL1⟩
set_option maxHeartbeats 1600000 in
set_option maxRecDepth 100000 in
/-- the closure that is handed to draw -/
theorem taken_any (rows : List Rw) (tp : List UInt8) (B gb gt bb bs b1 bk : Nat) (key y : List UInt8) (back : Bool) (w : World) (hb : BkAt w B gb gt rows tp) (hrl : rows.length ≤ 1000000) (hbb : w.cell? ⟨bb, 0, none⟩ = some (.pointer (some ⟨gb, 0, none⟩))) (hc : Cap w bs b1 bk key back) (hyl : y.length = 16) :
    Calls Tryd.prog 79 #[.agg (Bs y), .pointer (some ⟨bb, 0, none⟩), .pointer (some ⟨bs, 0, none⟩), .pointer (some ⟨bk, 0, none⟩)] w fun e w' => e = .returned (.bool (ptaken rows key y back)) ∧ Below w.heap.size w w' := by
  obtain ⟨N, hN⟩ : ∃ N, w.heap.size = N := ⟨_, rfl⟩
  have HN := Lib.hid hN
  obtain ⟨vr, hg, hr⟩ := hb.book
  have HCT := Lib.hid (fun (w1 : World) (gy : Nat) (h : Below N w w1) (hy : Blk w1 gy 41 y) => contains_any vr rows B bs b1 bk gy key y back w1 (hr.below (by rw [hN]; exact h)) hb.ok hrl (hc.below (by rw [hN]; exact h)) hy hyl)
  have hlt : gb < N := by rw [← hN]; exact (Array.getElem?_eq_some_iff.1 hg).1
  have hlt2 : bb < N := by rw [← hN]; exact block_of_cell hbb
  have HG := Lib.hid (show ∀ w1, Below N w w1 → w1.cell? ⟨bb, 0, none⟩ = some (.pointer (some ⟨gb, 0, none⟩)) ∧ w1.cell? ⟨gb, 0, none⟩ = some vr from fun w1 h => ⟨(h.cell (p := ⟨bb, 0, none⟩) hlt2).trans hbb, (h.cell (p := ⟨gb, 0, none⟩) hlt).trans (by unfold World.cell?; rw [hg]; rfl)⟩)
  obtain ⟨A, c, rfl⟩ := hr.formc
  clear hb hrl hbb hc hyl hg hr hlt hlt2
  go_enter Tryd.func79, Tryd.ntmps79
  go_wp2_with (first
    | ((with_reducible show wpList _ _ _ _ _ w); refine box_blk (w := w) rfl 41 _ rfl y (by rfl) ?_; intro w0 hA0 hG0 hz0; rw [HN.out] at hA0 hz0 ⊢; have hM0 : Below N w w0 := below_none (Below.refl _ _) (by rw [HN.out]; omega) hG0; have c0 := (HG.out w0 hM0).1; have c1 := (HG.out w0 hM0).2)
    | (go_at_call 80; refine (HCT.out w0 N hM0 hA0).mono ?_; rintro e w1 ⟨rfl, hL1⟩))
  go_ret
  exact ⟨rfl, by rw [HN.out]; exact below_more hM0 hL1 (by omega)⟩
end Go.Proofs.YtbbfjlnkhenbiaaDoor
set_option linter.unusedVariables false
set_option linter.unusedSimpArgs false
namespace Lk
open Go Go.RowKit
theorem BkAt.took {w w' : World} {B gb gt : Nat} {rows : List Rw} {tp tp' : List UInt8} (h : BkAt w B gb gt rows tp) (hG : w.grownBy w' (some gt)) (hT : TpAt w' gt tp') : BkAt w' B gb gt rows tp' := by
  obtain ⟨h1, ⟨v, h2, h3⟩, ⟨u, h4, _⟩, h5⟩ := h
  have hne : gb ≠ gt := by
    rintro rfl
    rw [h2] at h4
    injection h4 with h4
    injection h4 with _ h4 _
    exact absurd h4 (by decide)
  refine ⟨h1, ⟨v, by rw [hG.block gb (Array.getElem?_eq_some_iff.1 h2).1 (by simpa using hne)]; exact h2, h3.1, h3.2.imp id ?_⟩, hT, h5⟩
  rintro ⟨g, cap, cur, e, hb, hg, r⟩
  have hne2 : g ≠ gt := by
    rintro rfl
    rw [hg] at h4
    injection h4 with h4
    injection h4 with _ h4 _
    exact absurd h4 (by decide)
  exact ⟨g, cap, cur, e, hb, by rw [hG.block g (Array.getElem?_eq_some_iff.1 hg).1 (by simpa using hne2)]; exact hg, r⟩
theorem grown_weakO {w w1 : World} {row : Option Nat} (h : w.grownBy w1 none) : w.grownBy w1 row := ⟨h.os, h.tape, h.output, h.size, fun i hi _ => h.block i hi (by simp)⟩
theorem grown_newO {w w1 w2 : World} {row : Option Nat} {g : Nat} (h : w.grownBy w1 row) (h' : w1.grownBy w2 (some g)) (hg : w.heap.size ≤ g) : w.grownBy w2 row :=
  ⟨h'.os.trans h.os, h'.tape.trans h.tape, h'.output.trans h.output, Nat.le_trans h.size h'.size, fun i hi hr => by
    rw [h'.block i (Nat.lt_of_lt_of_le hi h.size) (by simp; omega)]; exact h.block i hi hr⟩
theorem grown_belowO {w w1 w2 : World} {row : Option Nat} (h : w.grownBy w1 row) (h' : Below w1.heap.size w1 w2) : w.grownBy w2 row :=
  ⟨h'.os.trans h.os, h'.tape.trans h.tape, h'.output.trans h.output, Nat.le_trans h.size h'.size, fun i hi hr => by
    rw [h'.block i (Nat.lt_of_lt_of_le hi h.size)]; exact h.block i hi hr⟩
end Lk
namespace Go.Proofs.YtbbfjlnkhenbiaaDoor
open Go Go.RowKit Lk
/-- what draw answers -/
def DrawR (w' : World) (B gb gt : Nat) (rows : List Rw) (r : Option (List UInt8) × List UInt8) (e : Ending) : Prop :=
  BkAt w' B gb gt rows r.2 ∧ ∃ y v, e = .returned (.tuple #[.agg (Bs y), v]) ∧ y.length = 16 ∧ ((r.1 = some y ∧ v = .nilIface) ∨ (r.1 = none ∧ ∃ a, 0 ≤ a ∧ ErV w' [a] 13 v))
set_option maxHeartbeats 3200000 in
set_option maxRecDepth 100000 in
theorem draw_any (rows : List Rw) (tp : List UInt8) (B gb gt bb bs b1 bk : Nat) (key : List UInt8) (back : Bool) (w : World) (hb : BkAt w B gb gt rows tp) (hrl : rows.length ≤ 1000000) (htl : tp.length ≤ 1000000) (hbb : w.cell? ⟨bb, 0, none⟩ = some (.pointer (some ⟨gb, 0, none⟩))) (hc : Cap w bs b1 bk key back) (hne : bb ≠ gt ∧ bs ≠ gt ∧ b1 ≠ gt ∧ bk ≠ gt) :
    Calls Tryd.prog 78 #[.pointer (some ⟨gb, 0, none⟩), .func (.func 79) #[] #[.pointer (some ⟨bb, 0, none⟩), .pointer (some ⟨bs, 0, none⟩), .pointer (some ⟨bk, 0, none⟩)]] w fun e w' => DrawR w' B gb gt rows (pdraw (fun y => ptaken rows key y back) tp) e ∧ w.grownBy w' (some gt) := by
  obtain ⟨N, hN⟩ : ∃ N, w.heap.size = N := ⟨_, rfl⟩
  have HN := Lib.hid hN
  have HB := Lib.hid hb
  have HRL := Lib.hid hrl
  have HTL := Lib.hid htl
  have HBB := Lib.hid hbb
  have HC := Lib.hid hc
  have HNE := Lib.hid hne
  have HGT := Lib.hid (show gt < N from by rw [← hN]; obtain ⟨u, hu, _⟩ := hb.tape; exact (Array.getElem?_eq_some_iff.1 hu).1)
  obtain ⟨D, eD⟩ : ∃ D, pdraw (fun y => ptaken rows key y back) tp = D := ⟨_, rfl⟩
  have HD := Lib.hid eD
  rw [eD]
  clear hN hb hrl htl hbb hc hne eD
  go_enter Tryd.func78, Tryd.ntmps78
  go_wp2_with (first
    | ((with_reducible show wpList _ _ _ _ _ w); refine alloc_row (w := w) rfl 41 rfl (.agg (Bs (List.replicate 16 0))) 16 (fun _ => by kernel_rfl) rfl ?_; intro w0 hR0 _ hG0 hz0; rw [HN.out] at hR0 hz0 ⊢))
  have HB0 := Lib.hid (HB.out.below (below_of_grown hG0))
  have HR0 := Lib.hid hR0
  have HG0 := Lib.hid hG0
  have HZ0 := Lib.hid hz0
  clear hR0 hG0 hz0
  go_loopg [5] tp.length (fun n v5 wr => v5 = .nilIface ∧ ∃ tp1, tp1.length = n ∧ n ≤ tp.length ∧ Hid (pdraw (fun y => ptaken rows key y back) tp1 = D) ∧ Hid (BkAt wr B gb gt rows tp1) ∧ Hid (Row wr N 41 16) ∧ Hid (w.grownBy wr (some gt)))
  case atStart => exact ⟨rfl, tp, rfl, Nat.le_refl _, HD, HB0, HR0, Lib.hid (grown_weakO HG0.out)⟩
  case round =>
    obtain ⟨rfl, tp1, hn, hnl, HD1, HB1, HR1, HG1⟩ := hrel
    obtain ⟨vr, hgb, _⟩ := HB1.out.book
    have cb : wr.cell? ⟨gb, 1, none⟩ = some (.pointer (some ⟨gt, 0, none⟩)) := by unfold World.cell?; rw [hgb]; rfl
    have HNn := Lib.hid hn
    have HNL := Lib.hid hnl
    clear hgb hnl
    by_cases hs : tp1.length < 16
    · have HDr := Lib.hid (show D = (none, tp1) from by rw [← HD1.out, pdraw_short _ _ hs])
      have HTn := Lib.hid (Take_no gt tp1 wr HB1.out.tape hs)
      clear hs hn
      go_wp2_with (first
        | (go_at_call 102; refine HTn.out.mono ?_; rintro e w1 ⟨v1, rfl, hE1, hL1⟩; have HE1 := Lib.hid hE1; obtain ⟨eT, ex, rfl⟩ := hE1.form; have HR2 := Lib.hid (HR1.out.below hL1 (by have := HG1.out.size; have := HN.out; have := HZ0.out; have := HR1.out.lt; omega)))
        | ((with_reducible show wpList _ _ _ _ _ w1); refine store_blk (w := w1) rfl 41 _ _ rfl N 41 16 (List.replicate 16 0) (by rfl) (by rfl) HR2.out rfl (by kernel_rfl) ?_; intro w2 hB2 hG2 hz2))
      have hz1 := hL1.size
      have hB1 := HB1.out.below hL1
      obtain ⟨oc, hoc, _⟩ := HR2.out
      have hB2' := hB1.apart hG2 hoc (by decide)
      have hlt := HR1.out.lt
      refine bodyPost_ret (results_blk rfl _ _ N 41 16 5 (List.replicate 16 0) rfl hB2 rfl (by kernel_rfl) (by kernel_rfl)) rfl ⟨?_, ?_⟩
      · rw [HDr.out]
        refine ⟨hB2', _, _, rfl, rfl, .inr ⟨rfl, (tp1.length : Int), by omega, ?_⟩⟩
        obtain ⟨g, u, e, hc, hr⟩ := HE1.out
        refine ⟨g, u, e, ?_, hr⟩
        rw [hG2.block g (Array.getElem?_eq_some_iff.1 hc).1 (by
          intro e
          obtain rfl : g = N := by simpa using e
          rw [hc] at hoc
          injection hoc with hoc
          injection hoc with _ hoc _
          exact absurd hoc (by decide))]
        exact hc
      · have hg := HG1.out
        have hn0 := HN.out
        exact ⟨hG2.os.trans (hL1.os.trans hg.os), hG2.tape.trans (hL1.tape.trans hg.tape), hG2.output.trans (hL1.output.trans hg.output), by have := hG2.size; have := hg.size; omega, fun i hi hr => by
          rw [hG2.block i (by have := hg.size; omega) (by simp; omega), hL1.block i (by have := hg.size; omega)]
          exact hg.block i hi hr⟩
    · have HS := Lib.hid hs
      have HTy := Lib.hid (Take_yes gt tp1 wr HB1.out.tape hs (by have := HTL.out; have := HNL.out; omega))
      have HT16 := Lib.hid (show (tp1.take 16).length = 16 from by rw [List.length_take]; omega)
      obtain ⟨y, ey⟩ : ∃ y, tp1.take 16 = y := ⟨_, rfl⟩
      rw [ey] at HTy HT16
      have EY := Lib.hid ey
      have HTa := Lib.hid (fun (w1 : World) (hb1 : BkAt w1 B gb gt rows (tp1.drop 16)) (hbb1 : w1.cell? ⟨bb, 0, none⟩ = some (.pointer (some ⟨gb, 0, none⟩))) (hc1 : Cap w1 bs b1 bk key back) => taken_any rows (tp1.drop 16) B gb gt bb bs b1 bk key y back w1 hb1 HRL.out hbb1 hc1 HT16.out)
      obtain ⟨q, hq⟩ : ∃ q, ptaken rows key y back = q := ⟨_, rfl⟩
      rw [hq] at HTa
      have HQ := Lib.hid hq
      have HCb := Lib.hid (fun (w1 : World) (h : w.grownBy w1 (some gt)) => (show w1.cell? ⟨bb, 0, none⟩ = some (.pointer (some ⟨gb, 0, none⟩)) ∧ Cap w1 bs b1 bk key back from ⟨cell_old HBB.out h (by simpa using fun e => HNE.out.1 e.symm), cell_old HC.out.sides h (by simpa using fun e => HNE.out.2.1 e.symm), cell_old HC.out.back h (by simpa using fun e => HNE.out.2.2.1 e.symm), cell_old HC.out.key h (by simpa using fun e => HNE.out.2.2.2 e.symm)⟩))
      have harr := arr16_at
      clear hs hn ey hq
      cases q
      · go_wp2_with (first
          | (go_at_call 102; refine HTy.out.mono ?_; rintro e w1 ⟨v1, rfl, hO1, hT1, hG1⟩; have HB2 := Lib.hid (HB1.out.took hG1 hT1); have hGw := grown_trans HG1.out hG1; obtain ⟨g1, c1, rfl, hgl, hgs, hrd1, _, hc1⟩ := hO1.form (by rw [HT16.out]; decide); have HRd := Lib.hid (rangeAt_rd hrd1); rw [HT16.out])
          | ((with_reducible show wpList _ _ _ _ _ w1); refine wpList_load_mid (w := w1) rfl 41 _ rfl g1 0 (by rfl) (Bl y) (.array 16 5) HRd.out (by kernel_rfl) rfl (by rw [Bl_len, HT16.out]; kernel_rfl) ?_)
          | ((with_reducible show wpList _ _ _ _ _ w1); refine alloc_row (w := w1) rfl 41 rfl (.agg (Bs (List.replicate 16 0))) 16 (fun _ => by kernel_rfl) rfl ?_; intro w2 hR2 _ hG2 hz2; have HB3 := HB2.out.below (below_of_grown hG2); have hGw2 := grown_belowO hGw (below_of_grown hG2); obtain ⟨G, eG⟩ : ∃ G, w1.heap.size = G := ⟨_, rfl⟩; rw [eG] at hR2 hz2 ⊢; have hGN : N < G := (by have := HR1.out.lt; have := hG1.size; omega); have hGn : w.heap.size ≤ G := (by have := hGw.size; omega); have hRN := (HR1.out.old hG1 (by intro e; have e2 : gt = N := (by simpa using e); have := HGT.out; omega)).old hG2 (by simp))
          | ((with_reducible show wpList _ _ _ _ _ w2); refine store_blk (w := w2) rfl 41 _ _ rfl G 41 16 y (by rfl) (by rfl) hR2 HT16.out (by kernel_rfl) ?_; intro w3 hY3 hG3 hz3; obtain ⟨oc, hoc, _⟩ := hR2; have HB4 := HB3.apart hG3 hoc (by decide); have hGw3 := grown_newO hGw2 hG3 hGn; have hRN3 := hRN.old hG3 (by simp; omega); have hcb := HCb.out w3 hGw3)
          | ((with_reducible show wpList _ _ _ _ _ w3); refine load_blk (w := w3) rfl 41 _ rfl G 41 16 5 y (by rfl) hY3 HT16.out (by kernel_rfl) (by kernel_rfl) ?_)
          | (go_at_call 79; refine (HTa.out w3 HB4 hcb.1 hcb.2).mono ?_; rintro e w4 ⟨rfl, hL4⟩; have HB5 := Lib.hid (HB4.below hL4); have hGw4 := Lib.hid (grown_belowO hGw3 hL4); have hY4 := hY3.under hL4; have hRN4 := hRN3.below hL4 (by have := hRN3.lt; exact this))
          | ((with_reducible show wpList _ _ _ _ _ w4); refine load_blk (w := w4) rfl 41 _ rfl G 41 16 5 y (by rfl) hY4 HT16.out (by kernel_rfl) (by kernel_rfl) ?_)
          | ((with_reducible show wpList _ _ _ _ _ w4); refine store_blk (w := w4) rfl 41 _ _ rfl N 41 16 y (by rfl) (by rfl) hRN4 HT16.out (by kernel_rfl) ?_; intro w5 hN5 hG5 hz5; obtain ⟨oc5, hoc5, _⟩ := hRN4; have HB6 := Lib.hid (HB5.out.apart hG5 hoc5 (by decide)); have hGw5 := grown_newO hGw4.out hG5 (by have := HN.out; omega)))
        have HDr := Lib.hid (show D = (some y, tp1.drop 16) from by rw [← HD1.out, pdraw_free _ _ HS.out (by rw [EY.out]; exact HQ.out), EY.out])
        refine bodyPost_ret (results_blk rfl _ _ N 41 16 5 y rfl hN5 HT16.out (by kernel_rfl) (by kernel_rfl)) rfl ⟨?_, hGw5⟩
        rw [HDr.out]
        exact ⟨HB6.out, _, _, rfl, HT16.out, .inl ⟨rfl, rfl⟩⟩
      · go_wp2_with (first
          | (go_at_call 102; refine HTy.out.mono ?_; rintro e w1 ⟨v1, rfl, hO1, hT1, hG1⟩; have HB2 := Lib.hid (HB1.out.took hG1 hT1); have hGw := grown_trans HG1.out hG1; obtain ⟨g1, c1, rfl, hgl, hgs, hrd1, _, hc1⟩ := hO1.form (by rw [HT16.out]; decide); have HRd := Lib.hid (rangeAt_rd hrd1); rw [HT16.out])
          | ((with_reducible show wpList _ _ _ _ _ w1); refine wpList_load_mid (w := w1) rfl 41 _ rfl g1 0 (by rfl) (Bl y) (.array 16 5) HRd.out (by kernel_rfl) rfl (by rw [Bl_len, HT16.out]; kernel_rfl) ?_)
          | ((with_reducible show wpList _ _ _ _ _ w1); refine alloc_row (w := w1) rfl 41 rfl (.agg (Bs (List.replicate 16 0))) 16 (fun _ => by kernel_rfl) rfl ?_; intro w2 hR2 _ hG2 hz2; have HB3 := HB2.out.below (below_of_grown hG2); have hGw2 := grown_belowO hGw (below_of_grown hG2); obtain ⟨G, eG⟩ : ∃ G, w1.heap.size = G := ⟨_, rfl⟩; rw [eG] at hR2 hz2 ⊢; have hGN : N < G := (by have := HR1.out.lt; have := hG1.size; omega); have hGn : w.heap.size ≤ G := (by have := hGw.size; omega); have hRN := (HR1.out.old hG1 (by intro e; have e2 : gt = N := (by simpa using e); have := HGT.out; omega)).old hG2 (by simp))
          | ((with_reducible show wpList _ _ _ _ _ w2); refine store_blk (w := w2) rfl 41 _ _ rfl G 41 16 y (by rfl) (by rfl) hR2 HT16.out (by kernel_rfl) ?_; intro w3 hY3 hG3 hz3; obtain ⟨oc, hoc, _⟩ := hR2; have HB4 := HB3.apart hG3 hoc (by decide); have hGw3 := grown_newO hGw2 hG3 hGn; have hRN3 := hRN.old hG3 (by simp; omega); have hcb := HCb.out w3 hGw3)
          | ((with_reducible show wpList _ _ _ _ _ w3); refine load_blk (w := w3) rfl 41 _ rfl G 41 16 5 y (by rfl) hY3 HT16.out (by kernel_rfl) (by kernel_rfl) ?_)
          | (go_at_call 79; refine (HTa.out w3 HB4 hcb.1 hcb.2).mono ?_; rintro e w4 ⟨rfl, hL4⟩; have HB5 := Lib.hid (HB4.below hL4); have hGw4 := Lib.hid (grown_belowO hGw3 hL4); have hY4 := hY3.under hL4; have hRN4 := hRN3.below hL4 (by have := hRN3.lt; exact this))
          | ((with_reducible show wpList _ _ _ _ _ w4); refine load_blk (w := w4) rfl 41 _ rfl G 41 16 5 y (by rfl) hY4 HT16.out (by kernel_rfl) (by kernel_rfl) ?_)
          | ((with_reducible show wpList _ _ _ _ _ w4); refine store_blk (w := w4) rfl 41 _ _ rfl N 41 16 y (by rfl) (by rfl) hRN4 HT16.out (by kernel_rfl) ?_; intro w5 hN5 hG5 hz5; obtain ⟨oc5, hoc5, _⟩ := hRN4; have HB6 := Lib.hid (HB5.out.apart hG5 hoc5 (by decide)); have hGw5 := grown_newO hGw4.out hG5 (by have := HN.out; omega)))
        have HDr := Lib.hid (show pdraw (fun y => ptaken rows key y back) (tp1.drop 16) = D from by rw [← HD1.out, pdraw_taken _ _ HS.out (by rw [EY.out]; exact HQ.out)])
        go_roundg ((tp1.drop 16).length)
        case rel => exact ⟨rfl, tp1.drop 16, rfl, by have := HNL.out; have := HNn.out; rw [List.length_drop]; omega, HDr, HB5, Lib.hid hRN4, hGw4⟩
        case measure => have := HNn.out; have := HS.out; rw [List.length_drop]; omega
end Go.Proofs.YtbbfjlnkhenbiaaDoor
set_option linter.unusedVariables false
set_option linter.unusedSimpArgs false
namespace Lk
open Go Go.RowKit
def rz : Value := .agg (rwc ⟨[], List.replicate 16 0, List.replicate 16 0⟩).toArray
theorem list16o (l : List UInt8) (h : l.length = 16) : ∃ a0 a1 a2 a3 a4 a5 a6 a7 a8 a9 a10 a11 a12 a13 a14 a15, l = [a0, a1, a2, a3, a4, a5, a6, a7, a8, a9, a10, a11, a12, a13, a14, a15] :=
  match l, h with
  | [a0, a1, a2, a3, a4, a5, a6, a7, a8, a9, a10, a11, a12, a13, a14, a15], _ => ⟨a0, a1, a2, a3, a4, a5, a6, a7, a8, a9, a10, a11, a12, a13, a14, a15, rfl⟩
section
variable {P : Program} {ops : Array Oper} {Q : Exit → Act → World → Prop} {K : Act → World → Prop} {i : Nat} {o : Oper} {a : Act} {w : World} {rest : List Oper}
theorem op_build3 (hgd : o.guard = none) (ty : TypeId) (x y z : Operand) (ho : o.op = .build ty #[(0, x), (1, y), (2, z)]) (v t u s : Value) (hx : a.eval x = s) (hy : a.eval y = t) (hz : a.eval z = u) (hr : ∀ w, (Instr.build ty #[(0, s), (1, t), (2, u)]).run P w = .ok v w)
    (h : wpList P ops Q rest (a.put o.dst v) w) : wpList P ops Q (o :: rest) a w :=
  wpList_plain hgd fun _ hK => by
    unfold Oper.wp execOp
    simp only [ho, Sem.run_bind]
    have e : (#[(0, x), (1, y), (2, z)] : Array (Nat × Operand)).map (fun (i, y) => (i, a.eval y)) = #[(0, s), (1, t), (2, u)] := by simp [hx, hy, hz]
    rw [e, hr]
    exact hK _ _ h
theorem exec_load1 (ty : TypeId) (x : Operand) (ho : o.op = .load ty x) (ad : Addr) (u : Value) (hx : a.eval x = .pointer (some ad)) (hl : (loadVar ty ad : Sem Value).run P w = .ok u w) : (execOp a.eval o).run P w = .ok (.value u) w := by
  unfold execOp
  simp only [ho, hx, Instr.loadAt, Instr.sureAddr, Sem.run_bind, Sem.run_pure, Result.andThen_ok, hl]
theorem wpOp_store1 (hi : ops[i]? = some o) (hw : Region.wanted o (yielded ops a.tmps) = true) (ty : TypeId) (x y : Operand) (ho : o.op = .store ty x y) (g k : Nat) (v u : Value) (hx : a.eval x = .pointer (some ⟨g, k, none⟩)) (hy : a.eval y = v) (hv : v.oneCell' = true) (hc : w.cell? ⟨g, k, none⟩ = some u) (hf : w.frozen? ⟨g, k, none⟩ = false)
    (hinfo : (P.info? ty).map (·.size) = some 1) (hk : K (a.put o.dst undef) (w.setCell ⟨g, k, none⟩ v)) : wpOp P ops Q i K a w := by
  unfold Go.wpOp
  simp only [hi, hw, if_true]
  refine .inl ?_
  unfold Oper.wp execOp
  simp only [ho, hx, hy, Instr.storeAt, Instr.sureAddr, Sem.run_bind, Sem.run_pure, Result.andThen_ok, run_storeVar_one w g k ty _ v hc hf hv hinfo]
  exact hk
theorem wpOp_append_r (hi : ops[i]? = some o) (hw : Region.wanted o (yielded ops a.tmps) = true) (hu : P.underlying rwS = some (.slice rwT)) (hinfo : (P.info? rwT).map (fun i => (i.zero, i.size, i.bytes)) = some (some rz, 33, 48)) (s x : Operand)
    (ho : o.op = .call { callee := .builtin .append, args := #[s, x], argTypes := #[rwS, rwS] }) (base : Nat) (v : Value) (rows : List Rw) (hs : a.eval s = v) (hown : OwnR w base v rows)
    (g2 : Nat) (r : Rw) (hok : rwOk r) (hx : a.eval x = .slice (some ⟨g2, 0, none⟩) 1 1) (hm : VB w g2 rwT (rwc r)) (hlen : rows.length ≤ 100000) (hbase : base ≤ w.heap.size)
    (h : ∀ v' w', OwnR w' base v' (rows ++ [r]) → w.grownBy w' v.ownBlock → K (a.put o.dst v') w') : wpOp P ops Q i K a w := by
  unfold Go.wpOp
  simp only [hi, hw, if_true]
  refine .inl ?_
  obtain ⟨ti, hti, hz, h1, h2⟩ := info_parts hinfo
  refine wp_append_own w s x rwS ho base rwT ti rz 33 48 hu hti hz h1 h2 (by show (rwc ⟨[], List.replicate 16 0, List.replicate 16 0⟩).toArray.size = 33; rfl) (by decide) v rows.length (rows.flatMap rwc) hs hown ⟨g2, 0, none⟩ 1 1 (rwc r) hx (by rw [rwc_len hok]) ?_ (rwc_one r) (by unfold maxLen; omega) (by omega) hbase ?_
  · intro j u hj
    have : (⟨g2, 0, none⟩ : Addr).add j = ⟨g2, j, none⟩ := by unfold Addr.add; split <;> simp_all
    rw [this]
    exact hm.cell j u hj
  · intro v' w' h3 h4 _
    refine h v' w' ?_ h4
    unfold OwnR
    rw [List.length_append, List.flatMap_append, List.flatMap_cons, List.flatMap_nil, List.append_nil]
    exact h3
end
theorem Fr.new {kind : Nat} {w w1 w2 : World} {g : Nat} (h : Fr kind w w1) (hG : w1.grownBy w2 (some g)) (hg : w.heap.size ≤ g) : Fr kind w w2 :=
  ⟨hG.os.trans h.os, hG.tape.trans h.tape, hG.output.trans h.output, Nat.le_trans h.size hG.size, fun i o hi ho => by
    have h1 := h.keeps i o hi ho
    rw [hG.block i (Array.getElem?_eq_some_iff.1 h1).1 (by have := (Array.getElem?_eq_some_iff.1 hi).1; simp; omega)]
    exact h1⟩
theorem Fr.of_tape {w w1 : World} {gt : Nat} {tp : List UInt8} (hT : TpAt w gt tp) (hG : w.grownBy w1 (some gt)) : Fr 3 w w1 := by
  obtain ⟨u, h1, _⟩ := hT
  refine ⟨hG.os, hG.tape, hG.output, hG.size, fun i o hi ho => ?_⟩
  rw [hG.block i (Array.getElem?_eq_some_iff.1 hi).1 (by
    intro e
    obtain rfl : i = gt := by simpa using e
    rw [h1] at hi
    obtain ⟨c, T, f, rfl, hT⟩ := ho rfl
    injection hi with hi
    injection hi with _ hi _
    exact hT.2.1 hi.symm)]
  exact hi
theorem OwnR.typ {w : World} {B : Nat} {v : Value} {rows : List Rw} (h : OwnR w B v rows) (k : Nat) (hk : v.ownBlock = some k) : B ≤ k ∧ ∃ c, w.heap[k]? = some (.cells c rwT (0, 0)) := by
  rcases h.2 with ⟨rfl, _⟩ | ⟨g, cap, cur, rfl, hb, hg, _⟩
  · simp [Value.ownBlock] at hk
  · obtain rfl : g = k := by simpa [Value.ownBlock] using hk
    exact ⟨hb, _, hg⟩
/-- the rows' slice, grown, is laid into the book -/
theorem BkAt.put {w w2 : World} {B gb gt : Nat} {rows rows' : List Rw} {tp : List UInt8} {v v' : Value} (h : BkAt w B gb gt rows tp) (hv : w.cell? ⟨gb, 0, none⟩ = some v) (hB : B ≤ w.heap.size) (hG : w.grownBy w2 v.ownBlock) (hO : OwnR w2 B v' rows') (hok : ∀ r ∈ rows', rwOk r) :
    BkAt (w2.setCell ⟨gb, 0, none⟩ v') B gb gt rows' tp ∧ Fr 3 w (w2.setCell ⟨gb, 0, none⟩ v') ∧ Below B w (w2.setCell ⟨gb, 0, none⟩ v') := by
  obtain ⟨h1, ⟨u, h2, h3⟩, ⟨t, h4, h6⟩, h5⟩ := h
  have huv : u = v := by
    unfold World.cell? at hv
    rw [h2] at hv
    simpa using hv
  subst huv
  have key : ∀ (k : Nat) (c : Array Value) (T : TypeId) (f : Nat × Nat), w.heap[k]? = some (.cells c T f) → T ≠ rwT → w2.heap[k]? = some (.cells c T f) := fun k c T f hk hT => by
    rw [hG.block k (Array.getElem?_eq_some_iff.1 hk).1 (by
      intro e
      obtain ⟨_, c', hc'⟩ := h3.typ k e.symm
      rw [hk] at hc'
      injection hc' with hc'
      injection hc' with _ hc' _
      exact hT hc')]
    exact hk
  have h2' := key _ _ _ _ h2 (by decide)
  have hS : w2.grownBy (w2.setCell ⟨gb, 0, none⟩ v') (some gb) := grown_set (grown_refl _ _) _ _
  have key2 : ∀ (k : Nat) (c : Array Value) (T : TypeId) (f : Nat × Nat), w2.heap[k]? = some (.cells c T f) → T ≠ bkT → (w2.setCell ⟨gb, 0, none⟩ v').heap[k]? = some (.cells c T f) := fun k c T f hk hT => by
    rw [hS.block k (Array.getElem?_eq_some_iff.1 hk).1 (by
      intro e
      obtain rfl : k = gb := by simpa using e
      rw [h2'] at hk
      injection hk with hk
      injection hk with _ hk _
      exact hT hk.symm)]
    exact hk
  refine ⟨⟨h1, ⟨v', ?_, hO.1, hO.2.imp id ?_⟩, ⟨t, key2 _ _ _ _ (key _ _ _ _ h4 (by decide)) (by decide), h6.of fun k c f hk => key2 _ _ _ _ (key _ _ _ _ hk (by decide)) (by decide)⟩, hok⟩, ⟨hS.os.trans hG.os, hS.tape.trans hG.tape, hS.output.trans hG.output, Nat.le_trans hG.size hS.size, fun i o hi ho => ?_⟩, ⟨hS.os.trans hG.os, hS.tape.trans hG.tape, hS.output.trans hG.output, Nat.le_trans hG.size hS.size, fun i hi => ?_⟩⟩
  · rw [heap_setCell_same w2 gb 0 _ _ _ h2']; rfl
  · rintro ⟨g, cap, cur, e, hb, hg, r⟩
    exact ⟨g, cap, cur, e, hb, key2 _ _ _ _ hg (by decide), r⟩
  · obtain ⟨c, T, f, rfl, hT⟩ := ho rfl
    exact key2 _ _ _ _ (key _ _ _ _ hi hT.2.2) hT.1
  · have hi2 : i < w.heap.size := by omega
    rw [hS.block i (Nat.lt_of_lt_of_le hi2 hG.size) (by simp; omega)]
    refine hG.block i hi2 fun e => ?_
    have := (h3.typ i e.symm).1
    omega
end Lk
namespace Go.Proofs.YtbbfjlnkhenbiaaDoor
open Go Go.RowKit Lk
theorem erV_apart {w w1 : World} {a k : Int} {v : Value} {g : Nat} {c : Array Value} {T : TypeId} {f : Nat × Nat} (h : ErV w [a] k v) (hG : w.grownBy w1 (some g)) (hg : w.heap[g]? = some (.cells c T f)) (hT : T ≠ 180) : ErV w1 [a] k v := by
  obtain ⟨p, u, e, hc, hr⟩ := h
  refine ⟨p, u, e, ?_, hr⟩
  rw [hG.block p (Array.getElem?_eq_some_iff.1 hc).1 (by
    intro e
    obtain rfl : p = g := by simpa using e
    rw [hc] at hg
    injection hg with hg
    injection hg with _ hg _
    exact hT hg.symm)]
  exact hc
theorem hu_rws : Tryd.prog.underlying rwS = some (.slice rwT) := by kernel_rfl
theorem hi_rwt : (Tryd.prog.info? rwT).map (fun i => (i.zero, i.size, i.bytes)) = some (some rz, 33, 48) := by kernel_rfl
theorem build_row (s : ByteArray) (x y : List UInt8) (hx : x.length = 16) (hy : y.length = 16) (w : World) : (Instr.build rwT #[(0, .string s), (1, .agg (Bs x)), (2, .agg (Bs y))]).run Tryd.prog w = .ok (.agg (.string s :: (Bl x ++ Bl y)).toArray) w := by
  obtain ⟨a0, a1, a2, a3, a4, a5, a6, a7, a8, a9, a10, a11, a12, a13, a14, a15, rfl⟩ := list16o x hx
  obtain ⟨b0, b1, b2, b3, b4, b5, b6, b7, b8, b9, b10, b11, b12, b13, b14, b15, rfl⟩ := list16o y hy
  kernel_rfl
theorem load_bp (w : World) (ad : Addr) (u : Value) (h : w.cell? ad = some u) : (loadVar 24 ad : Sem Value).run Tryd.prog w = .ok u w := by
  simp [loadVar, go_sem, h]
theorem load_rws (w : World) (ad : Addr) (u : Value) (h : w.cell? ad = some u) : (loadVar rwS ad : Sem Value).run Tryd.prog w = .ok u w := by
  simp [loadVar, h, run_underlying hu_rws, isAgg]
theorem run_rows1 (s : ByteArray) (x y : List UInt8) (hx : x.length = 16) (hy : y.length = 16) (w : World) : (Instr.buildSlice rwS 1 #[(0, .agg (.string s :: (Bl x ++ Bl y)).toArray)]).run Tryd.prog w = .ok (.slice (some ⟨w.heap.size, 0, none⟩) 1 1) (w.alloc (.cells (.string s :: (Bl x ++ Bl y)).toArray rwT)) := by
  obtain ⟨a0, a1, a2, a3, a4, a5, a6, a7, a8, a9, a10, a11, a12, a13, a14, a15, rfl⟩ := list16o x hx
  obtain ⟨b0, b1, b2, b3, b4, b5, b6, b7, b8, b9, b10, b11, b12, b13, b14, b15, rfl⟩ := list16o y hy
  kernel_rfl
theorem exec_rows (o : Oper) (a : Act) (u : Operand) (ho : o.op = .buildSlice rwS 1 #[(0, u)]) (s : ByteArray) (x y : List UInt8) (hx : x.length = 16) (hy : y.length = 16) (hu : a.eval u = .agg (.string s :: (Bl x ++ Bl y)).toArray) (w : World) : (execOp a.eval o).run Tryd.prog w = .ok (.value (.slice (some ⟨w.heap.size, 0, none⟩) 1 1)) (w.alloc (.cells (.string s :: (Bl x ++ Bl y)).toArray rwT)) := by
  unfold execOp
  simp only [ho, Sem.run_bind]
  have e : (#[(0, u)] : Array (Nat × Operand)).map (fun (i, y) => (i, a.eval y)) = #[(0, .agg (.string s :: (Bl x ++ Bl y)).toArray)] := by simp [hu]
  rw [e, run_rows1 s x y hx hy w]
  rfl
end Go.Proofs.YtbbfjlnkhenbiaaDoor
