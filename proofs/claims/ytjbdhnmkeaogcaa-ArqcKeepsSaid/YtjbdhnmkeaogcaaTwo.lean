/- Answers of cards: Two; the answers that the document fixes. -/
import Derived.Test.YtjbdhnmkeaogcaaCat
set_option linter.unusedVariables false
set_option linter.unusedSimpArgs false
namespace Lk
def ptwo (key code st more : List UInt8) : List UInt8 := (pretail key (code ++ st ++ more)).take 4
theorem ptwo_len (key code st more : List UInt8) : (ptwo key code st more).length = 4 := by unfold ptwo; rw [List.length_take, pretail_len]; rfl
end Lk
namespace Go.Proofs.Ytjbdhnmkeaogcaa
open Go.RowKit Lk
set_option maxHeartbeats 1600000 in
set_option maxRecDepth 100000 in
theorem Two_any (vk vc vm : Value) (key code st more : List UInt8) (w : World) (hk : SlB w vk key) (hkl : key.length = 16) (hc : SlB w vc code) (hcl : code.length = 8) (hsl : st.length = 4) (hm : SlB w vm more) (hml : more.length ≤ 8) :
    Calls Try.prog 29 #[vk, vc, .agg (Bs st), vm] w fun e w' => ∃ v, e = .returned (.tuple #[v, .nilIface]) ∧ Own w' w.heap.size v (ptwo key code st more) ∧ Below w.heap.size w w' := by
  obtain ⟨N, hN⟩ : ∃ N, w.heap.size = N := ⟨_, rfl⟩
  have HN := Lib.hid hN
  have HK := Lib.hid (fun (w' : World) (hw' : Below N w w') => hk.below (by rw [hN]; exact hw'))
  have HC := Lib.hid (fun (w' : World) (hw' : Below N w w') => hc.below (by rw [hN]; exact hw'))
  have HM := Lib.hid (fun (w' : World) (hw' : Below N w w') => hm.below (by rw [hN]; exact hw'))
  have HKL := Lib.hid hkl
  have HCL := Lib.hid hcl
  have HSL := Lib.hid hsl
  have HML := Lib.hid hml
  obtain ⟨Ak, ck, rfl⟩ := hk.form hkl
  obtain ⟨Ac, cc, rfl⟩ := hc.form hcl
  obtain ⟨Lm, eLm⟩ : ∃ L, more.length = L := ⟨_, rfl⟩
  obtain ⟨Am, cm, rfl⟩ := hm.form eLm
  rw [eLm] at hml
  clear hk hc hm hkl hcl hsl eLm
  go_enter Try.func29, Try.ntmps29
  go_wp2_with ((with_reducible show wpList _ _ _ _ _ w); refine box_blk (w := w) rfl 57 _ rfl st rfl ?_; intro w1 hB1 hG1 hz1; have hM1 : Below N w w1 := (below_none (Below.refl _ _) (by omega) hG1); rw [hN] at hB1 hz1 ⊢)
  have hM2 : Below N w (w1.alloc (.cells #[.slice Ac 8 cc, .slice (some ⟨N, 0, none⟩) 4 4, .slice Am Lm cm] 22)) := below_alloc hM1 (by omega) _
  have d1 := cell_alloc_new w1 #[.slice Ac 8 cc, .slice (some ⟨N, 0, none⟩) 4 4, .slice Am Lm cm] 0 _ (T := 22) rfl
  have d2 := cell_alloc_new w1 #[.slice Ac 8 cc, .slice (some ⟨N, 0, none⟩) 4 4, .slice Am Lm cm] 1 _ (T := 22) rfl
  have d3 := cell_alloc_new w1 #[.slice Ac 8 cc, .slice (some ⟨N, 0, none⟩) 4 4, .slice Am Lm cm] 2 _ (T := 22) rfl
  rw [hz1] at d1 d2 d3
  have s1 : SlB (w1.alloc (.cells #[.slice Ac 8 cc, .slice (some ⟨N, 0, none⟩) 4 4, .slice Am Lm cm] 22)) (.slice (some ⟨N, 0, none⟩) 4 4) st := (hB1.slB HSL.out (by decide)).alloc _
  have s2 := HC.out _ hM2
  have s3 := HM.out _ hM2
  have hs2 : N ≤ (w1.alloc (.cells #[.slice Ac 8 cc, .slice (some ⟨N, 0, none⟩) 4 4, .slice Am Lm cm] 22)).heap.size := by show N ≤ (w1.heap.push _).size; simp; omega
  generalize hw2 : w1.alloc _ = w2 at d1 d2 d3 s1 s2 s3 hM2 hs2 ⊢
  refine (Concat3 (N + 1) (.slice Ac 8 cc) (.slice (some ⟨N, 0, none⟩) 4 4) (.slice Am Lm cm) code st more w2 d1 d2 d3 s2 s1 s3 (by rw [HCL.out]; decide) (by rw [HSL.out]; decide) (by have := HML.out; omega) (by rw [HCL.out]; decide)).mono ?_
  rintro e w3 ⟨v, rfl, hO3, hL3⟩
  have hM3 : Below N w w3 := below_more hM2 hL3 hs2
  have hs3 := hM3.size
  rw [hN] at hs3
  have HO3 := Lib.hid hO3
  have HM3 := Lib.hid hM3
  obtain ⟨T, eT⟩ : ∃ T, (code ++ st ++ more).length = T := ⟨_, rfl⟩
  obtain ⟨A3, c3, e3⟩ := hO3.slB.form eT
  subst e3
  clear hO3 hL3 hM3 hM2 hM1 hB1 hG1 d1 d2 d3 s1 s2 s3 hs2 hw2 eT
  go_wp2_with fail
  refine (Retail_at 4 4 rfl _ _ key (code ++ st ++ more) w3 (HK.out w3 HM3.out) HKL.out HO3.out.slB (by rw [List.length_append, List.length_append, HCL.out, HSL.out]; have := HML.out; omega) (by decide) (by decide)).mono ?_
  rintro e w4 ⟨v4, rfl, hO4, hL4⟩
  have HO4 := Lib.hid (show Own w4 N v4 (ptwo key code st more) from hO4.lower hs3)
  have HM4 := Lib.hid (below_more HM3.out hL4 hs3)
  obtain ⟨A4, c4, e4⟩ := HO4.out.slB.form (ptwo_len _ _ _ _)
  subst e4
  clear hO4 hL4
  go_wp2_with fail
  go_ret2
  exact ⟨_, rfl, by rw [HN.out]; exact HO4.out, by rw [HN.out]; exact HM4.out⟩
end Go.Proofs.Ytjbdhnmkeaogcaa
